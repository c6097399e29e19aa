/-
  A call that was run once, from its arguments alone: what it came to serves wherever the same arguments come, under other names.
-/
import Derived.Test.YtjdhldfeflmneaaGreatX7
set_option linter.unusedSimpArgs false
set_option linter.unusedVariables false
namespace Go.Proofs.YtjdhldfeflmneaaGreat.AM
noncomputable section

/-! ### Names turned -/
def renS (θ : Nat → Nat) : Value → Value
  | .pointer (some ⟨b, o, none⟩) => .pointer (some ⟨θ b, o, none⟩)
  | .slice (some ⟨b, o, none⟩) n c => .slice (some ⟨θ b, o, none⟩) n c
  | .map (some b) => .map (some (θ b))
  | v => v
def renC (θ : Nat → Nat) : Value → Value
  | .func (.func f) ⟨xs⟩ ⟨ys⟩ => .func (.func f) ⟨xs.map (renS θ)⟩ ⟨ys.map (renS θ)⟩
  | .func (.yield r) a c => .func (.yield (θ r)) a c
  | .iface t v => .iface t (renS θ v)
  | v => renS θ v
def renR (θ : Nat → Nat) : R → R
  | .nil => .nil
  | .one v => .one (renC θ v)
  | .rep n v => .rep n (renC θ v)
  | .cat a b => .cat (renR θ a) (renR θ b)
def renA (θ : Nat → Nat) : XA → XA
  | .c v => .c (renC θ v)
  | .agg r => .agg (renR θ r)
def renV (θ : Nat → Nat) : XV → XV
  | .a x => .a (renA θ x)
  | .tup l => .tup (l.map (renA θ))
  | .any => .any
def renE (θ : Nat → Nat) (e : Value × XA) : Value × XA := (e.1, renA θ e.2)
def renO (θ : Nat → Nat) : EO → EO
  | .cells r E m => .cells (renR θ r) E m
  | .map kk es c => .map kk (es.map (renE θ)) c
  | _ => .dead
theorem renR_toL (θ : Nat → Nat) : ∀ r : R, (renR θ r).toL = r.toL.map (renC θ)
  | .nil => rfl
  | .one v => rfl
  | .rep n v => by simp [renR, R.toL]
  | .cat a b => by simp [renR, R.toL, renR_toL θ a, renR_toL θ b]
section
variable {ρ ρ' : Ren} {θ : Nat → Nat} (hθ : ∀ b x, ρ b = some x → ρ' (θ b) = some x)
include hθ
theorem RS.ren {v v' : Value} (h : RS ρ v v') : RS ρ' (renS θ v) v' := by
  cases h with
  | self h =>
    have : renS θ v = v := by
      unfold renS
      split <;> first | rfl | (exfalso; simp [selfC] at h)
    rw [this]; exact .self h
  | ptr h => exact .ptr (hθ _ _ h)
  | slice h => exact .slice (hθ _ _ h)
  | map h => exact .map (hθ _ _ h)
theorem RS.rens {l l' : List Value} (h : All2 (RS ρ) l l') : All2 (RS ρ') (l.map (renS θ)) l' := by
  induction h with
  | nil => exact .nil
  | cons h _ ih => exact .cons (h.ren hθ) ih
theorem RC.ren {v v' : Value} (h : RC ρ v v') : RC ρ' (renC θ v) v' := by
  cases h with
  | s h =>
    cases h with
    | self hs =>
      cases v <;> try (exact .s (RS.ren hθ (.self hs)))
      · rename_i f a c
        cases f with
        | func f =>
          simp [selfC] at hs
          obtain ⟨rfl, rfl⟩ := hs
          exact .func f .nil .nil
        | _ => simp [selfC] at hs
      · simp [selfC] at hs
    | ptr h => exact .s (.ptr (hθ _ _ h))
    | slice h => exact .s (.slice (hθ _ _ h))
    | map h => exact .s (.map (hθ _ _ h))
  | func f h k =>
    rename_i xs ys xs' ys'
    obtain ⟨xs⟩ := xs
    obtain ⟨ys⟩ := ys
    exact .func f (RS.rens hθ h) (RS.rens hθ k)
  | yield h => exact .yield (hθ _ _ h)
  | iface t h => exact .iface t (h.ren hθ)
theorem RC.rens {l l' : List Value} (h : All2 (RC ρ) l l') : All2 (RC ρ') (l.map (renC θ)) l' := by
  induction h with
  | nil => exact .nil
  | cons h _ ih => exact .cons (h.ren hθ) ih
theorem RA.ren {x : XA} {v' : Value} (h : RA ρ x v') : RA ρ' (renA θ x) v' := by
  cases h with
  | c h => exact .c (h.ren hθ)
  | agg h => exact .agg (by rw [renR_toL]; exact RC.rens hθ h)
theorem RV.ren {x : XV} {v' : Value} (h : RV ρ x v') : RV ρ' (renV θ x) v' := by
  cases h with
  | a h => exact .a (h.ren hθ)
  | tup h =>
    refine .tup ?_
    rename_i l vs
    generalize vs.toList = m at h
    induction h with
    | nil => exact .nil
    | cons h _ ih => exact .cons (h.ren hθ) ih
  | any => exact .any
theorem RO.ren {τ : LObj} {o : EO} {o' : AObj} (h : RO ρ τ o o') (hd : isDead (renO θ o) = false) : RO ρ' τ (renO θ o) o' := by
  cases h with
  | cells h => exact .cells (by rw [renR_toL]; exact RC.rens hθ h)
  | map h hp hdist =>
    refine .map ?_ hp hdist
    clear hp
    induction h with
    | nil => exact .nil
    | cons h _ ih => exact .cons ⟨h.1, h.2.ren hθ⟩ (ih hd)
  | iterN => cases hd
  | iter h => cases hd
  | loop h => cases hd
  | defer => cases hd
end

/-! ### Arguments held against a pattern -/
abbrev AS := List (Nat × Nat)
def AS.le (a a' : AS) : Prop := ∀ b c, assocGet a b = some c → assocGet a' b = some c
theorem AS.le_refl (a : AS) : a.le a := fun _ _ h => h
theorem AS.le_trans {a b c : AS} (h1 : a.le b) (h2 : b.le c) : a.le c := fun x y h => h2 _ _ (h1 _ _ h)
def bindN (nL : Nat) (a : AS) (b c : Nat) : Option AS :=
  match assocGet a b with
  | some c' => bc (Nat.beq c' c) (some a) none
  | none => bc (Nat.blt b nL) (some ((b, c) :: a)) none
def ρof (ρ : Ren) (a : AS) (nL : Nat) : Ren := fun b => if b < nL then (match assocGet a b with | some c => ρ c | none => none) else none
/-- All names of a list are below nL. -/
def AS.lo (a : AS) (nL : Nat) : Prop := ∀ b c, assocGet a b = some c → b < nL
theorem bindN_ok {nL : Nat} {a a1 : AS} {b c : Nat} (hlo : a.lo nL) (h : bindN nL a b c = some a1) : a.le a1 ∧ a1.lo nL ∧ assocGet a1 b = some c := by
  unfold bindN at h
  split at h
  · rename_i c' hc
    cases hb : Nat.beq c' c
    · rw [hb] at h; cases h
    · rw [hb] at h; cases h
      have := Nat.eq_of_beq_eq_true hb
      subst this
      exact ⟨AS.le_refl _, hlo, hc⟩
  · rename_i hn
    cases hb : Nat.blt b nL
    · rw [hb] at h; cases h
    · rw [hb] at h; cases h
      refine ⟨fun x y hx => ?_, fun x y hx => ?_, ?_⟩
      · rw [assocGet_cons]
        cases he : Nat.beq b x
        · rw [bc_false]; exact hx
        · have := Nat.eq_of_beq_eq_true he
          subst this
          rw [hn] at hx; cases hx
      · rw [assocGet_cons] at hx
        cases he : Nat.beq b x
        · rw [he, bc_false] at hx; exact hlo _ _ hx
        · have := Nat.eq_of_beq_eq_true he
          subst this
          exact blt_iff.1 hb
      · rw [assocGet_cons, Nat.beq_refl, bc_true]
theorem ρof_of {ρ : Ren} {a a' : AS} {nL b c : Nat} {x : Nat × LObj} (hle : a.le a') (hlo : a.lo nL) (hb : assocGet a b = some c) (hx : ρ c = some x) : ρof ρ a' nL b = some x := by
  unfold ρof
  rw [if_pos (hlo _ _ hb), hle _ _ hb]; exact hx
def matchS (nL : Nat) (a : AS) (v w : Value) : Option AS :=
  match v, w with
  | .pointer (some ⟨b, o, none⟩), .pointer (some ⟨c, o', none⟩) => bc (Nat.beq o o') (bindN nL a b c) none
  | .slice (some ⟨b, o, none⟩) n k, .slice (some ⟨c, o', none⟩) n' k' => bc (Nat.beq o o') (bc (Nat.beq n n') (bc (Nat.beq k k') (bindN nL a b c) none) none) none
  | .map (some b), .map (some c) => bindN nL a b c
  | .map none, .map none => some a
  | v, w => bc (sameC v w) (some a) none
theorem sameC_self {v w : Value} (h : sameC v w = true) : selfC v = true := by
  unfold sameC at h
  split at h <;> first | rfl | cases h
theorem matchS_ok {nL : Nat} {a a1 : AS} {v w : Value} (hlo : a.lo nL) (h : matchS nL a v w = some a1) : a.le a1 ∧ a1.lo nL ∧ ∀ (a' : AS), a1.le a' → ∀ (ρ : Ren) (v' : Value), RC ρ w v' → RC (ρof ρ a' nL) v v' := by
  unfold matchS at h
  split at h
  · rename_i b o c o'
    cases ho : Nat.beq o o'
    · rw [ho] at h; cases h
    rw [ho, bc_true] at h
    have ho := Nat.eq_of_beq_eq_true ho
    subst ho
    obtain ⟨h1, h2, h3⟩ := bindN_ok hlo h
    refine ⟨h1, h2, fun a' hle ρ v' hv => ?_⟩
    obtain ⟨b', t, hρ, rfl⟩ := hv.ptr
    exact .s (.ptr (ρof_of hle h2 h3 hρ))
  · rename_i b o n k c o' n' k'
    cases ho : Nat.beq o o'
    · rw [ho] at h; cases h
    rw [ho, bc_true] at h
    cases hn : Nat.beq n n'
    · rw [hn] at h; cases h
    rw [hn, bc_true] at h
    cases hk : Nat.beq k k'
    · rw [hk] at h; cases h
    rw [hk, bc_true] at h
    have ho := Nat.eq_of_beq_eq_true ho
    have hn := Nat.eq_of_beq_eq_true hn
    have hk := Nat.eq_of_beq_eq_true hk
    subst ho hn hk
    obtain ⟨h1, h2, h3⟩ := bindN_ok hlo h
    refine ⟨h1, h2, fun a' hle ρ v' hv => ?_⟩
    obtain ⟨b', t, hρ, rfl⟩ := hv.sl
    exact .s (.slice (ρof_of hle h2 h3 hρ))
  · rename_i b c
    obtain ⟨h1, h2, h3⟩ := bindN_ok hlo h
    refine ⟨h1, h2, fun a' hle ρ v' hv => ?_⟩
    obtain ⟨b', t, hρ, rfl⟩ := hv.mp
    exact .s (.map (ρof_of hle h2 h3 hρ))
  · cases h
    refine ⟨AS.le_refl _, hlo, fun a' hle ρ v' hv => ?_⟩
    obtain rfl := hv.self_eq rfl
    exact .of_self rfl
  · cases hs : sameC v w
    · rw [hs] at h; cases h
    · rw [hs] at h; cases h
      have he := sameC_eq hs
      subst he
      refine ⟨AS.le_refl _, hlo, fun a' hle ρ v' hv => ?_⟩
      obtain rfl := hv.self_eq (sameC_self hs)
      exact .of_self (sameC_self hs)
def matchL (nL : Nat) : AS → List Value → List Value → Option AS
  | a, [], [] => some a
  | a, v :: l, w :: m => (match matchS nL a v w with | some a => matchL nL a l m | none => none)
  | _, _, _ => none
theorem matchL_ok {nL : Nat} : ∀ {l m : List Value} {a a1 : AS}, a.lo nL → matchL nL a l m = some a1 → a.le a1 ∧ a1.lo nL ∧ ∀ (a' : AS), a1.le a' → ∀ (ρ : Ren) (l' : List Value), All2 (RC ρ) m l' → All2 (RC (ρof ρ a' nL)) l l'
  | [], [], a, a1, hlo, h => by
    cases h
    exact ⟨AS.le_refl _, hlo, fun _ _ _ _ h => by cases h; exact .nil⟩
  | v :: l, w :: m, a, a1, hlo, h => by
    simp only [matchL] at h
    split at h
    · rename_i a2 h2
      obtain ⟨g1, g2, g3⟩ := matchS_ok hlo h2
      obtain ⟨k1, k2, k3⟩ := matchL_ok g2 h
      refine ⟨AS.le_trans g1 k1, k2, fun a' hle ρ l' hl => ?_⟩
      cases hl with
      | cons h1 ht => exact .cons (g3 a' (AS.le_trans k1 hle) _ _ h1) (k3 a' hle _ _ ht)
    · cases h
  | [], _ :: _, _, _, _, h => by cases h
  | _ :: _, [], _, _, _, h => by cases h
def matchA (nL : Nat) (a : AS) (x y : XA) : Option AS :=
  match x, y with
  | .c v, .c w => matchS nL a v w
  | .agg r, .agg s => matchL nL a r.toL s.toL
  | _, _ => none
theorem matchA_ok {nL : Nat} {a a1 : AS} {x y : XA} (hlo : a.lo nL) (h : matchA nL a x y = some a1) : a.le a1 ∧ a1.lo nL ∧ ∀ (a' : AS), a1.le a' → ∀ (ρ : Ren) (v' : Value), RA ρ y v' → RA (ρof ρ a' nL) x v' := by
  unfold matchA at h
  split at h
  · obtain ⟨h1, h2, h3⟩ := matchS_ok hlo h
    exact ⟨h1, h2, fun a' hle ρ v' hv => by cases hv with | c hv => exact .c (h3 a' hle ρ v' hv)⟩
  · obtain ⟨h1, h2, h3⟩ := matchL_ok hlo h
    exact ⟨h1, h2, fun a' hle ρ v' hv => by cases hv with | agg hv => exact .agg (h3 a' hle ρ _ hv)⟩
  · cases h
def matchAs (nL : Nat) : AS → List XA → List XA → Option AS
  | a, [], [] => some a
  | a, v :: l, w :: m => (match matchA nL a v w with | some a => matchAs nL a l m | none => none)
  | _, _, _ => none
theorem matchAs_ok {nL : Nat} : ∀ {l m : List XA} {a a1 : AS}, a.lo nL → matchAs nL a l m = some a1 → a.le a1 ∧ a1.lo nL ∧ ∀ (a' : AS), a1.le a' → ∀ (ρ : Ren) (l' : List Value), All2 (RA ρ) m l' → All2 (RA (ρof ρ a' nL)) l l'
  | [], [], a, a1, hlo, h => by
    cases h
    exact ⟨AS.le_refl _, hlo, fun _ _ _ _ h => by cases h; exact .nil⟩
  | v :: l, w :: m, a, a1, hlo, h => by
    simp only [matchAs] at h
    split at h
    · rename_i a2 h2
      obtain ⟨g1, g2, g3⟩ := matchA_ok hlo h2
      obtain ⟨k1, k2, k3⟩ := matchAs_ok g2 h
      refine ⟨AS.le_trans g1 k1, k2, fun a' hle ρ l' hl => ?_⟩
      cases hl with
      | cons h1 ht => exact .cons (g3 a' (AS.le_trans k1 hle) _ _ h1) (k3 a' hle _ _ ht)
    · cases h
  | [], _ :: _, _, _, _, h => by cases h
  | _ :: _, [], _, _, _, h => by cases h
def ownEq (a b : Own) : Bool := match a, b with | .ro, .ro | .exact, .exact | .open, .open => true | _, _ => false
theorem ownEq_eq {a b : Own} (h : ownEq a b = true) : a = b := by cases a <;> cases b <;> first | rfl | cases h
def matchEs (nL : Nat) : AS → List (Value × XA) → List (Value × XA) → Option AS
  | a, [], [] => some a
  | a, v :: l, w :: m => bc (keyEqF v.1 w.1) (match matchA nL a v.2 w.2 with | some a => matchEs nL a l m | none => none) none
  | _, _, _ => none
theorem matchEs_ok {nL : Nat} : ∀ {l m : List (Value × XA)} {a a1 : AS}, a.lo nL → matchEs nL a l m = some a1 → a.le a1 ∧ a1.lo nL ∧ ∀ (a' : AS), a1.le a' → ∀ (ρ : Ren) (l' : List (Value × Value)), RM2 ρ m l' → RM2 (ρof ρ a' nL) l l'
  | [], [], a, a1, hlo, h => by
    cases h
    exact ⟨AS.le_refl _, hlo, fun _ _ _ _ h => by cases h; exact .nil⟩
  | v :: l, w :: m, a, a1, hlo, h => by
    simp only [matchEs] at h
    cases hk : keyEqF v.1 w.1
    · rw [hk] at h; cases h
    rw [hk, bc_true] at h
    rw [keyEqF_eq] at hk
    have hk := keyEq_eq hk
    split at h
    · rename_i a2 h2
      obtain ⟨g1, g2, g3⟩ := matchA_ok hlo h2
      obtain ⟨k1, k2, k3⟩ := matchEs_ok g2 h
      refine ⟨AS.le_trans g1 k1, k2, fun a' hle ρ l' hl => ?_⟩
      cases hl with
      | cons h1 ht => exact .cons ⟨h1.1.trans hk.symm, g3 a' (AS.le_trans k1 hle) _ _ h1.2⟩ (k3 a' hle _ _ ht)
    · cases h
  | [], _ :: _, _, _, _, h => by cases h
  | _ :: _, [], _, _, _, h => by cases h
def matchO (nL : Nat) (a : AS) (o o' : EO) : Option AS :=
  match o, o' with
  | .cells r E m, .cells r' E' m' => bc (Nat.beq E E') (bc (ownEq m m') (matchL nL a r.toL r'.toL) none) none
  | .map kk es c, .map kk' es' c' => bc (kkEq kk kk') (bc (Nat.beq c c') (matchEs nL a es es') none) none
  | _, _ => none
theorem matchO_ok {nL : Nat} {a a1 : AS} {o o' : EO} (hlo : a.lo nL) (h : matchO nL a o o' = some a1) : a.le a1 ∧ a1.lo nL ∧ isDead o' = false ∧ ∀ (a' : AS), a1.le a' → ∀ (ρ : Ren) (τ : LObj) (x : AObj), RO ρ τ o' x → RO (ρof ρ a' nL) τ o x := by
  unfold matchO at h
  split at h
  · rename_i r E m r' E' m'
    cases hE : Nat.beq E E'
    · rw [hE] at h; cases h
    rw [hE, bc_true] at h
    cases hm : ownEq m m'
    · rw [hm] at h; cases h
    rw [hm, bc_true] at h
    have hE := Nat.eq_of_beq_eq_true hE
    have hm := ownEq_eq hm
    subst hE hm
    obtain ⟨h1, h2, h3⟩ := matchL_ok hlo h
    exact ⟨h1, h2, rfl, fun a' hle ρ τ x hx => by cases hx with | cells hx => exact .cells (h3 a' hle ρ _ hx)⟩
  · rename_i kk es c kk' es' c'
    cases hE : kkEq kk kk'
    · rw [hE] at h; cases h
    rw [hE, bc_true] at h
    cases hm : Nat.beq c c'
    · rw [hm] at h; cases h
    rw [hm, bc_true] at h
    have hE : kk = kk' := of_decide_eq_true hE
    have hm := Nat.eq_of_beq_eq_true hm
    subst hE hm
    obtain ⟨h1, h2, h3⟩ := matchEs_ok hlo h
    exact ⟨h1, h2, rfl, fun a' hle ρ τ x hx => by cases hx with | map hx hp hd => exact .map (h3 a' hle ρ _ hx) hp hd⟩
  · cases h
def matchI (nL : Nat) (eh : EH) : AS → List (Nat × EO) → Option AS
  | a, [] => some a
  | a, p :: l => (match assocGet a p.1 with
    | some c => (match eh.get c with
      | some o => (match matchO nL a p.2 o with | some a => matchI nL eh a l | none => none)
      | none => none)
    | none => none)
theorem matchI_ok {nL : Nat} {eh : EH} : ∀ {l : List (Nat × EO)} {a a1 : AS}, a.lo nL → matchI nL eh a l = some a1 → a.le a1 ∧ a1.lo nL ∧ ∀ p ∈ l, ∃ c o, assocGet a1 p.1 = some c ∧ eh.get c = some o ∧ isDead o = false ∧ ∀ (ρ : Ren) (τ : LObj) (x : AObj), RO ρ τ o x → RO (ρof ρ a1 nL) τ p.2 x
  | [], a, a1, hlo, h => by
    cases h
    exact ⟨AS.le_refl _, hlo, fun p hp => by cases hp⟩
  | p :: l, a, a1, hlo, h => by
    simp only [matchI] at h
    split at h
    · rename_i c hc
      split at h
      · rename_i o ho
        split at h
        · rename_i a2 h2
          obtain ⟨g1, g2, g3, g4⟩ := matchO_ok hlo h2
          obtain ⟨k1, k2, k3⟩ := matchI_ok g2 h
          refine ⟨AS.le_trans g1 k1, k2, fun q hq => ?_⟩
          rcases List.mem_cons.1 hq with rfl | hq
          · exact ⟨c, o, k1 _ _ (g1 _ _ hc), ho, g3, fun ρ τ x hx => g4 a1 k1 ρ τ x hx⟩
          · exact k3 q hq
        · cases h
      · cases h
    · cases h

/-! ### A call that was run -/
structure LQ where
  f : Nat
  args : List XA
  inp : List (Nat × EO)
  n : Nat
  v : XV
  objs : List (Nat × EO)
  n' : Nat
def mkEH : List (Nat × EO) → EH
  | [] => .nil
  | p :: l => (mkEH l).set p.1 p.2
def pickR (r : Res) (bs : List Nat) : Option (XV × List (Option EO) × Nat) := match r with | some (v, eh, n) => some (v, bs.map fun b => eh.get b, n) | none => none
def thetaN (a : AS) (nL n b : Nat) : Nat := bc (Nat.blt b nL) (match assocGet a b with | some c => c | none => 0) (Nat.add (Nat.sub b nL) n)
def killI (θ : Nat → Nat) : List (Nat × EO) → EH → EH
  | [], e => e
  | p :: l, e => killI θ l (e.set (θ p.1) .dead)
def graft (θ : Nat → Nat) : List (Nat × EO) → EH → EH
  | [], e => e
  | p :: l, e => graft θ l (e.set (θ p.1) (renO θ p.2))
def nodupN : List Nat → Bool
  | [] => true
  | x :: l => !(l.any fun y => Nat.beq x y) && nodupN l
def s_local (q : LQ) : CallF := fun g args eh n => bc (Nat.beq g q.f)
  (match matchAs q.n [(0, 0), (1, 1)] q.args args with
   | some a => (match matchI q.n eh a q.inp with
     | some a => bc (nodupN (0 :: 1 :: q.inp.map fun p => thetaN a q.n n p.1))
        (some (renV (thetaN a q.n n) q.v, graft (thetaN a q.n n) q.objs (killI (thetaN a q.n n) q.inp eh), n + (q.n' - q.n))) none
     | none => none)
   | none => none) none
structure LQ.Ok (C : CallF) (q : LQ) : Prop where
  two' : Nat.ble 2 q.n = true
  nm : q.inp.map (·.1) = List.range' 2 (q.n - 2)
  run : pickR (C q.f q.args (mkEH q.inp) q.n) (q.objs.map (·.1)) = some (q.v, q.objs.map (fun p => some p.2), q.n')
theorem LQ.Ok.two {C : CallF} {q : LQ} (h : q.Ok C) : 2 ≤ q.n := ble_iff.1 h.two'
theorem LQ.Ok.cov {C : CallF} {q : LQ} (h : q.Ok C) (b : Nat) (h1 : 2 ≤ b) (h2 : b < q.n) : b ∈ q.inp.map (·.1) := by
  rw [h.nm, List.mem_range'_1]; omega
theorem graft_get {θ : Nat → Nat} {c : Nat} {o : EO} : ∀ {l : List (Nat × EO)} {e : EH}, (graft θ l e).get c = some o → (∃ p ∈ l, θ p.1 = c ∧ renO θ p.2 = o) ∨ e.get c = some o
  | [], e, h => .inr h
  | p :: l, e, h => by
    rcases graft_get (l := l) h with ⟨q, hq, h1⟩ | h
    · exact .inl ⟨q, .tail _ hq, h1⟩
    · rw [Tr.get_set] at h
      split at h
      · rename_i he
        cases h
        exact .inl ⟨p, .head _, he.symm, rfl⟩
      · exact .inr h
theorem killI_get {θ : Nat → Nat} {c : Nat} {o : EO} (hd : isDead o = false) : ∀ {l : List (Nat × EO)} {e : EH}, (killI θ l e).get c = some o → e.get c = some o ∧ ∀ p ∈ l, θ p.1 ≠ c
  | [], e, h => ⟨h, fun p hp => by cases hp⟩
  | p :: l, e, h => by
    obtain ⟨h1, h2⟩ := killI_get hd (l := l) h
    rw [Tr.get_set] at h1
    split at h1
    · cases h1; cases hd
    · rename_i he
      refine ⟨h1, fun q hq => ?_⟩
      rcases List.mem_cons.1 hq with rfl | hq
      · exact fun e => he e.symm
      · exact h2 q hq
theorem mkEH_get {c : Nat} {o : EO} : ∀ {l : List (Nat × EO)}, (mkEH l).get c = some o → (c, o) ∈ l
  | [], h => by rw [mkEH, Tr.get_nil] at h; cases h
  | p :: l, h => by
    rw [mkEH, Tr.get_set] at h
    split at h
    · rename_i he
      cases h; subst he; exact .head _
    · exact .tail _ (mkEH_get h)
theorem nodupN_inj {α : Type} {f : α → Nat} : ∀ {l : List α}, nodupN (l.map f) = true → ∀ p ∈ l, ∀ q ∈ l, f p = f q → p = q
  | [], _, p, hp, _, _, _ => by cases hp
  | x :: l, h, p, hp, q, hq, he => by
    simp only [List.map_cons, nodupN, Bool.and_eq_true, Bool.not_eq_true'] at h
    have key : ∀ y ∈ l, f x ≠ f y := fun y hy e => by
      have h1 := h.1
      rw [List.any_eq_false] at h1
      exact h1 (f y) (List.mem_map.2 ⟨y, hy, rfl⟩) (by rw [e]; exact Nat.beq_refl _)
    rcases List.mem_cons.1 hp with hp' | hp' <;> rcases List.mem_cons.1 hq with hq' | hq'
    · rw [hp', hq']
    · exact absurd (hp' ▸ he) (key q hq')
    · exact absurd (hq' ▸ he).symm (key p hp')
    · exact nodupN_inj h.2 p hp' q hq' he
open Classical in
theorem s_local_ok {P : Program} {C : CallF} (hC : CallOk P C) {q : LQ} (hq : q.Ok C) : CallOk P (s_local q) := by
  intro f args eh n r he F ρ h args' hs ha
  unfold s_local at he
  cases hf : Nat.beq f q.f
  · rw [hf] at he; cases he
  rw [hf, bc_true] at he
  have hf := Nat.eq_of_beq_eq_true hf
  subst hf
  split at he
  rotate_left
  · cases he
  rename_i a0 hm0
  split at he
  rotate_left
  · cases he
  rename_i a hm
  cases hnd : nodupN (0 :: 1 :: q.inp.map fun p => thetaN a q.n n p.1)
  · rw [hnd] at he; cases he
  rw [hnd, bc_true] at he
  cases he
  have hstart : AS.lo [(0, 0), (1, 1)] q.n := by
    intro b c hb
    have h2 := hq.two
    simp only [assocGet_cons, assocGet_nil] at hb
    cases h0 : Nat.beq 0 b
    · rw [h0, bc_false] at hb
      cases h1 : Nat.beq 1 b
      · rw [h1, bc_false] at hb; cases hb
      · have := Nat.eq_of_beq_eq_true h1; omega
    · have := Nat.eq_of_beq_eq_true h0; omega
  obtain ⟨g1, g2, g3⟩ := matchAs_ok hstart hm0
  obtain ⟨k1, k2, k3⟩ := matchI_ok g2 hm
  have hz : ∀ b, b < 2 → assocGet a b = some b := fun b hb => by
    refine (AS.le_trans g1 k1) _ _ ?_
    rcases (by omega : b = 0 ∨ b = 1) with rfl | rfl <;> rfl
  generalize hθd : thetaN a q.n n = θ at *
  have θlo : ∀ b c, assocGet a b = some c → θ b = c := fun b c hb => by
    rw [← hθd]; unfold thetaN
    rw [blt_iff.2 (k2 _ _ hb), bc_true, hb]
  have θhi : ∀ b, q.n ≤ b → θ b = b - q.n + n := fun b hb => by
    rw [← hθd]; unfold thetaN
    rw [blt_false.2 hb, bc_false]; rfl
  have hnd2 := hnd
  simp only [nodupN, Bool.and_eq_true, Bool.not_eq_true'] at hnd2
  have θinj := nodupN_inj hnd2.2.2
  have θ2 : ∀ p ∈ q.inp, 2 ≤ θ p.1 := fun p hp => by
    have h0 := hnd2.1
    have h1 := hnd2.2.1
    rw [List.any_eq_false] at h0 h1
    have e0 := h0 (θ p.1) (.tail _ (List.mem_map.2 ⟨p, hp, rfl⟩))
    have e1 := h1 (θ p.1) (List.mem_map.2 ⟨p, hp, rfl⟩)
    have n0 : θ p.1 ≠ 0 := fun e => e0 (by rw [e]; rfl)
    have n1 : θ p.1 ≠ 1 := fun e => e1 (by rw [e]; rfl)
    omega
  generalize hρL : ρof ρ a q.n = ρL at *
  have ρLlo : ∀ b c, assocGet a b = some c → ρL b = ρ c := fun b c hb => by
    rw [← hρL]; unfold ρof
    rw [if_pos (k2 _ _ hb), hb]
  have ρLnone : ∀ b, q.n ≤ b → ρL b = none := fun b hb => by
    rw [← hρL]; unfold ρof
    rw [if_neg (by omega)]
  -- the input objects
  have inp : ∀ p ∈ q.inp, ∃ o b' τ o', assocGet a p.1 = some (θ p.1) ∧ eh.get (θ p.1) = some o ∧ isDead o = false ∧ ρ (θ p.1) = some (b', τ) ∧ ρL p.1 = some (b', τ) ∧ h b' = some o' ∧ RO ρL τ p.2 o' := by
    intro p hp
    obtain ⟨c, o, h1, h2, h3, h4⟩ := k3 p hp
    obtain ⟨b', τ, o', h5, h6, h7⟩ := hs.obj c o h2 h3
    have hc := θlo _ _ h1
    rw [hc]
    exact ⟨o, b', τ, o', h1, h2, h3, h5, by rw [ρLlo _ _ h1]; exact h5, h6, hρL ▸ h4 ρ τ o' h7⟩
  have hcov : ∀ b, 2 ≤ b → b < q.n → ∃ p ∈ q.inp, p.1 = b := fun b h1 h2 => by
    obtain ⟨p, hp, rfl⟩ := List.mem_map.1 (hq.cov b h1 h2)
    exact ⟨p, hp, rfl⟩
  have ρLsome : ∀ b, b < q.n → ∃ x, ρL b = some x ∧ ρ (θ b) = some x := fun b hb => by
    by_cases h2 : 2 ≤ b
    · obtain ⟨p, hp, rfl⟩ := hcov b h2 hb
      obtain ⟨o, b', τ, o', _, _, _, h5, h6, _⟩ := inp p hp
      exact ⟨_, h6, h5⟩
    · have hb2 := hz b (by omega)
      rw [ρLlo _ _ hb2, θlo _ _ hb2]
      rcases (by omega : b = 0 ∨ b = 1) with rfl | rfl
      · obtain ⟨t, ht⟩ := hs.z0; exact ⟨_, ht, ht⟩
      · obtain ⟨t, ht⟩ := hs.z1; exact ⟨_, ht, ht⟩
  -- the frame: all but the input objects
  let G : H := fun c => if ∃ p ∈ q.inp, ∃ t, ρL p.1 = some (c, t) then none else h c
  have hLs : XSim G ρL q.n (mkEH q.inp) h := by
    refine ⟨?_, ?_, ?_, ρLnone, hq.two, ?_, ?_, ?_, ?_⟩
    · obtain ⟨t, ht⟩ := hs.z0
      exact ⟨t, by rw [ρLlo _ _ (hz 0 (by omega))]; exact ht⟩
    · obtain ⟨t, ht⟩ := hs.z1
      exact ⟨t, by rw [ρLlo _ _ (hz 1 (by omega))]; exact ht⟩
    · intro b b' t h2 hb
      by_cases hlt : b < q.n
      · obtain ⟨p, hp, rfl⟩ := hcov b h2 hlt
        obtain ⟨o, c', τ, o', _, _, _, h5, h6, h7, _⟩ := inp p hp
        rw [h6] at hb; cases hb
        exact hs.two _ _ _ (θ2 p hp) h5
      · rw [ρLnone b (by omega)] at hb; cases hb
    · intro b o hb hd
      have hm := mkEH_get hb
      obtain ⟨o2, b', τ, o', _, _, _, _, h6, h7, h8⟩ := inp _ hm
      exact ⟨b', τ, o', h6, h7, h8⟩
    · intro b c o o' x t t' hb _ hc _ hx hx'
      have hb := mkEH_get hb
      have hc := mkEH_get hc
      obtain ⟨ob, bb, τb, ob', _, q2, q3, q4, q5, _⟩ := inp _ hb
      obtain ⟨oc, bc', τc, oc', _, p2, p3, p4, p5, _⟩ := inp _ hc
      rw [q5] at hx; cases hx
      rw [p5] at hx'; cases hx'
      have := hs.inj _ _ _ _ _ _ _ q2 q3 p2 p3 q4 p4
      have := θinj _ hb _ hc this
      exact congrArg Prod.fst this
    · intro c o hc
      by_cases hp : ∃ p ∈ q.inp, ∃ t, ρL p.1 = some (c, t)
      · simp only [G, if_pos hp] at hc; cases hc
      · simp only [G, if_neg hp] at hc; exact hc
    · intro b o x t hb _ hx
      have hb := mkEH_get hb
      simp only [G]
      rw [if_pos ⟨_, hb, t, hx⟩]
  have hrun := hq.run
  unfold pickR at hrun
  split at hrun
  rotate_left
  · cases hrun
  rename_i v1 ehL n1 hrun1
  simp only [Option.some.injEq, Prod.mk.injEq] at hrun
  obtain ⟨rfl, hobjs, rfl⟩ := hrun
  have hget : ∀ p ∈ q.objs, ehL.get p.1 = some p.2 := by
    intro p hp
    obtain ⟨i, hi⟩ := List.mem_iff_getElem?.1 hp
    have := congrArg (·[i]?) hobjs
    simpa [hi] using this
  refine (hC _ _ _ _ _ hrun1 G ρL h args' hLs (hρL ▸ g3 a k1 ρ args' ha)).mono ?_
  rintro v' h' ⟨ρL', hle, hs', hv'⟩
  refine ⟨fun b => if b < n then ρ b else ρL' (b - n + q.n), ?_, ?_, ?_⟩
  · intro b x hx
    have : b < n := by
      rcases Nat.lt_or_ge b n with h1 | h1
      · exact h1
      · rw [hs.top b h1] at hx; cases hx
    simp only [if_pos this]; exact hx
  rotate_left
  · refine hv'.ren fun b x hx => ?_
    by_cases hb : b < q.n
    · obtain ⟨y, hy, hy2⟩ := ρLsome b hb
      have := hle _ _ hy
      rw [this] at hx; cases hx
      have hlt : θ b < n := by
        rcases Nat.lt_or_ge (θ b) n with h1 | h1
        · exact h1
        · rw [hs.top _ h1] at hy2; cases hy2
      simp only [if_pos hlt]; exact hy2
    · rw [θhi b (by omega)]
      simp only [if_neg (show ¬ (b - q.n + n < n) by omega)]
      rw [show b - q.n + n - n + q.n = b by omega]; exact hx
  have hθ : ∀ b x, ρL' b = some x → (fun b => if b < n then ρ b else ρL' (b - n + q.n)) (θ b) = some x := fun b x hx => by
    by_cases hb : b < q.n
    · obtain ⟨y, hy, hy2⟩ := ρLsome b hb
      have := hle _ _ hy
      rw [this] at hx; cases hx
      have hlt : θ b < n := by
        rcases Nat.lt_or_ge (θ b) n with h1 | h1
        · exact h1
        · rw [hs.top _ h1] at hy2; cases hy2
      simp only [if_pos hlt]; exact hy2
    · rw [θhi b (by omega)]
      simp only [if_neg (show ¬ (b - q.n + n < n) by omega)]
      rw [show b - q.n + n - n + q.n = b by omega]; exact hx
  have hρle : ρ.le (fun b => if b < n then ρ b else ρL' (b - n + q.n)) := by
    intro b x hx
    have : b < n := by
      rcases Nat.lt_or_ge b n with h1 | h1
      · exact h1
      · rw [hs.top b h1] at hx; cases hx
    simp only [if_pos this]; exact hx
  generalize hρ' : (fun b => if b < n then ρ b else ρL' (b - n + q.n)) = ρ' at *
  -- what is there behind the call
  have objN : ∀ c o, (graft θ q.objs (killI θ q.inp eh)).get c = some o → isDead o = false →
      (∃ p ∈ q.objs, θ p.1 = c ∧ o = renO θ p.2 ∧ ehL.get p.1 = some p.2 ∧ isDead p.2 = false) ∨ (eh.get c = some o ∧ ∀ p ∈ q.inp, θ p.1 ≠ c) := by
    intro c o hc hd
    rcases graft_get hc with ⟨p, hp, rfl, rfl⟩ | hc
    · refine .inl ⟨p, hp, rfl, rfl, hget p hp, ?_⟩
      cases hpd : p.2 <;> first | rfl | (rw [hpd] at hd; cases hd)
    · exact .inr (killI_get hd hc)
  have old : ∀ c o b' τ o', eh.get c = some o → isDead o = false → (∀ p ∈ q.inp, θ p.1 ≠ c) → ρ c = some (b', τ) → h b' = some o' → G b' = some o' := by
    intro c o b' τ o' h1 h2 h3 h4 h5
    have : ¬ ∃ p ∈ q.inp, ∃ t, ρL p.1 = some (b', t) := by
      rintro ⟨p, hp, t, ht⟩
      obtain ⟨o2, b2, τ2, o2', _, e2, e3, e4, e5, _⟩ := inp p hp
      rw [e5] at ht; cases ht
      exact h3 p hp (hs.inj _ _ _ _ _ _ _ e2 e3 h1 h2 e4 h4)
    simp only [G, if_neg this]; exact h5
  have newAt : ∀ p ∈ q.objs, isDead p.2 = false → ehL.get p.1 = some p.2 → ∃ b' τ o', ρL' p.1 = some (b', τ) ∧ ρ' (θ p.1) = some (b', τ) ∧ h' b' = some o' ∧ RO ρL' τ p.2 o' ∧ G b' = none := by
    intro p hp hd hg
    obtain ⟨b', τ, o', h1, h2, h3⟩ := hs'.obj _ _ hg hd
    exact ⟨b', τ, o', h1, hθ _ _ h1, h2, h3, hs'.fsep _ _ _ _ hg hd h1⟩
  refine ⟨?_, ?_, ?_, ?_, ?_, ?_, ?_, ?_, ?_⟩
  · obtain ⟨t, ht⟩ := hs.z0; exact ⟨t, hρle _ _ ht⟩
  · obtain ⟨t, ht⟩ := hs.z1; exact ⟨t, hρle _ _ ht⟩
  · intro b b' t h2 hb
    rw [← hρ'] at hb
    by_cases hlt : b < n
    · simp only [if_pos hlt] at hb; exact hs.two _ _ _ h2 hb
    · simp only [if_neg hlt] at hb
      have := hq.two
      exact hs'.two _ _ _ (by omega) hb
  · intro b hb
    have hb : n + (q.n' - q.n) ≤ b := hb
    rw [← hρ']
    simp only [if_neg (show ¬ b < n by omega)]
    exact hs'.top _ (show q.n' ≤ b - n + q.n by omega)
  · have := hs.n2
    show 2 ≤ n + (q.n' - q.n)
    omega
  · intro c o hc hd
    rcases objN c o hc hd with ⟨p, hp, rfl, rfl, h1, h2⟩ | ⟨h1, h2⟩
    · obtain ⟨b', τ, o', e1, e2, e3, e4, _⟩ := newAt p hp h2 h1
      exact ⟨b', τ, o', e2, e3, e4.ren hθ hd⟩
    · obtain ⟨b', τ, o', e1, e2, e3⟩ := hs.obj c o h1 hd
      exact ⟨b', τ, o', hρle _ _ e1, hs'.fr _ _ (old _ _ _ _ _ h1 hd h2 e1 e2), e3.mono hρle⟩
  · intro b c o o' x t t' hb hbd hc hcd hx hx'
    rcases objN b o hb hbd with ⟨p, hp, rfl, rfl, h1, h2⟩ | ⟨h1, h2⟩ <;> rcases objN c o' hc hcd with ⟨p', hp', rfl, rfl, h1', h2'⟩ | ⟨h1', h2'⟩
    · obtain ⟨b1, τ1, o1, e1, e2, e3, e4, _⟩ := newAt p hp h2 h1
      obtain ⟨b2, τ2, o2, f1, f2, f3, f4, _⟩ := newAt p' hp' h2' h1'
      rw [e2] at hx; cases hx
      rw [f2] at hx'; cases hx'
      rw [hs'.inj _ _ _ _ _ _ _ h1 h2 h1' h2' e1 f1]
    · obtain ⟨b1, τ1, o1, e1, e2, e3, e4, e5⟩ := newAt p hp h2 h1
      obtain ⟨b2, τ2, o2, f1, f2, f3⟩ := hs.obj c _ h1' hcd
      rw [e2] at hx; cases hx
      rw [hρle _ _ f1] at hx'; cases hx'
      rw [old _ _ _ _ _ h1' hcd h2' f1 f2] at e5; cases e5
    · obtain ⟨b1, τ1, o1, e1, e2, e3, e4, e5⟩ := newAt p' hp' h2' h1'
      obtain ⟨b2, τ2, o2, f1, f2, f3⟩ := hs.obj b _ h1 hbd
      rw [e2] at hx'; cases hx'
      rw [hρle _ _ f1] at hx; cases hx
      rw [old _ _ _ _ _ h1 hbd h2 f1 f2] at e5; cases e5
    · obtain ⟨b1, τ1, o1, e1, e2, e3⟩ := hs.obj b _ h1 hbd
      obtain ⟨b2, τ2, o2, f1, f2, f3⟩ := hs.obj c _ h1' hcd
      rw [hρle _ _ e1] at hx; cases hx
      rw [hρle _ _ f1] at hx'; cases hx'
      exact hs.inj _ _ _ _ _ _ _ h1 hbd h1' hcd e1 f1
  · intro c o hc
    refine hs'.fr c o ?_
    have : ¬ ∃ p ∈ q.inp, ∃ t, ρL p.1 = some (c, t) := by
      rintro ⟨p, hp, t, ht⟩
      obtain ⟨o2, b2, τ2, o2', _, e2, e3, e4, e5, _⟩ := inp p hp
      rw [e5] at ht; cases ht
      rw [hs.fsep _ _ _ _ e2 e3 e4] at hc; cases hc
    simp only [G, if_neg this]; exact hs.fr c o hc
  · intro b o x t hb hd hx
    rcases objN b o hb hd with ⟨p, hp, rfl, rfl, h1, h2⟩ | ⟨h1, h2⟩
    · obtain ⟨b1, τ1, o1, e1, e2, e3, e4, e5⟩ := newAt p hp h2 h1
      rw [e2] at hx; cases hx
      cases hF : F x with
      | none => rfl
      | some y =>
        exfalso
        have : ¬ ∃ p ∈ q.inp, ∃ t, ρL p.1 = some (x, t) := by
          rintro ⟨p, hp, t, ht⟩
          obtain ⟨o2, b2, τ2, o2', _, g2, g3, g4, g5, _⟩ := inp p hp
          rw [g5] at ht; cases ht
          rw [hs.fsep _ _ _ _ g2 g3 g4] at hF; cases hF
        simp only [G, if_neg this] at e5
        rw [hs.fr _ _ hF] at e5; cases e5
    · obtain ⟨b1, τ1, o1, e1, e2, e3⟩ := hs.obj b _ h1 hd
      rw [hρle _ _ e1] at hx; cases hx
      exact hs.fsep _ _ _ _ h1 hd e1
/-- One summary, or another. -/
def orR (a : Res) (b : Res) : Res := @Option.rec (XV × EH × Nat) (fun _ => Res) b (fun r => some r) a
def orS (S S' : CallF) : CallF := fun g args eh n => orR (S g args eh n) (S' g args eh n)
theorem orS_ok {P : Program} {S S' : CallF} (h : CallOk P S) (h' : CallOk P S') : CallOk P (orS S S') := by
  intro f args eh n r he
  unfold orS at he
  cases hs : S f args eh n with
  | none => rw [hs] at he; exact h' f args eh n r he
  | some x => rw [hs] at he; exact h f args eh n r (hs.trans he)
abbrev I (k : IntKind) (z : Int) : Value := .int k z
abbrev Pt (b o : Nat) : Value := .pointer (some ⟨b, o, none⟩)
abbrev Ls (b o n c : Nat) : Value := .slice (some ⟨b, o, none⟩) n c
end
end Go.Proofs.YtjdhldfeflmneaaGreat.AM
