import Derived.Test.YtbmfblmebhobiaaGreatM8b
/-
  A call that was run once, from its arguments alone: what it came to serves wherever the same arguments come, under other names.
-/
set_option linter.unusedSimpArgs false
set_option linter.unusedVariables false
namespace Go.Proofs.YtbmfblmebhobiaaGreat.AM
noncomputable section

/-! ### Names turned -/
def renS (θ : Nat → Nat) : Value → Value
  | .pointer (some ⟨b, o, none⟩) => .pointer (some ⟨θ b, o, none⟩)
  | .slice (some ⟨b, o, none⟩) n c => .slice (some ⟨θ b, o, none⟩) n c
  | .map (some b) => .map (some (θ b))
  | v => v
def renC (θ : Nat → Nat) : Value → Value
  | .func (.func f) ⟨xs⟩ ⟨ys⟩ => .func (.func f) ⟨xs.map (renS θ)⟩ ⟨ys.map (renS θ)⟩
  | .func (.yield r) a c => .func (.yield (θ r)) a c
  | .iface t v => .iface t (renS θ v)
  | v => renS θ v
def renR (θ : Nat → Nat) : R → R
  | .nil => .nil
  | .one v => .one (renC θ v)
  | .rep n v => .rep n (renC θ v)
  | .cat a b => .cat (renR θ a) (renR θ b)
def renA (θ : Nat → Nat) : XA → XA
  | .c v => .c (renC θ v)
  | .agg r => .agg (renR θ r)
def renV (θ : Nat → Nat) : XV → XV
  | .a x => .a (renA θ x)
  | .tup l => .tup (l.map (renA θ))
  | .any => .any
def renE (θ : Nat → Nat) (e : Value × XA) : Value × XA := (e.1, renA θ e.2)
def renO (θ : Nat → Nat) : EO → EO
  | .cells r E m => .cells (renR θ r) E m
  | .map kk es c => .map kk (es.map (renE θ)) c
  | _ => .dead
theorem renR_toL (θ : Nat → Nat) : ∀ r : R, (renR θ r).toL = r.toL.map (renC θ)
  | .nil => rfl
  | .one v => rfl
  | .rep n v => by simp [renR, R.toL]
  | .cat a b => by simp [renR, R.toL, renR_toL θ a, renR_toL θ b]
section
variable {ρ ρ' : Ren} {θ : Nat → Nat} (hθ0 : ∀ x, ρ 0 = some x → ρ' 0 = some x) (hθ : ∀ b x, ρ b = some x → ρ' (θ b) = some x)
include hθ0 hθ
theorem RS.ren {v v' : Value} (h : RS ρ v v') : RS ρ' (renS θ v) v' := by
  cases h with
  | self h =>
    have : renS θ v = v := by
      unfold renS
      split <;> first | rfl | (exfalso; simp [selfC] at h)
    rw [this]; exact .self h
  | ptr h => exact .ptr (hθ _ _ h)
  | slice h => exact .slice (hθ _ _ h)
  | map h => exact .map (hθ _ _ h)
  | sliceT h => exact .sliceT (hθ _ _ h)
  | tok h hv hg => exact .tok (hθ0 _ h) hv hg
theorem RS.rens {l l' : List Value} (h : All2 (RS ρ) l l') : All2 (RS ρ') (l.map (renS θ)) l' := by
  induction h with
  | nil => exact .nil
  | cons h _ ih => exact .cons (h.ren hθ0 hθ) ih
theorem RC.ren {v v' : Value} (h : RC ρ v v') : RC ρ' (renC θ v) v' := by
  cases h with
  | s h =>
    cases h with
    | self hs =>
      cases v <;> try (exact .s (RS.ren hθ0 hθ (.self hs)))
      · rename_i f a c
        cases f with
        | func f =>
          simp [selfC] at hs
          obtain ⟨rfl, rfl⟩ := hs
          exact .func f .nil .nil
        | _ => simp [selfC] at hs
      · simp [selfC] at hs
    | ptr h => exact .s (.ptr (hθ _ _ h))
    | slice h => exact .s (.slice (hθ _ _ h))
    | map h => exact .s (.map (hθ _ _ h))
    | sliceT h => exact .s (.sliceT (hθ _ _ h))
    | tok h hv hg => exact .s (.tok (hθ0 _ h) hv hg)
  | func f h k =>
    rename_i xs ys xs' ys'
    obtain ⟨xs⟩ := xs
    obtain ⟨ys⟩ := ys
    exact .func f (RS.rens hθ0 hθ h) (RS.rens hθ0 hθ k)
  | yield h => exact .yield (hθ _ _ h)
  | iface t h => exact .iface t (h.ren hθ0 hθ)
theorem RC.rens {l l' : List Value} (h : All2 (RC ρ) l l') : All2 (RC ρ') (l.map (renC θ)) l' := by
  induction h with
  | nil => exact .nil
  | cons h _ ih => exact .cons (h.ren hθ0 hθ) ih
theorem RA.ren {x : XA} {v' : Value} (h : RA ρ x v') : RA ρ' (renA θ x) v' := by
  cases h with
  | c h => exact .c (h.ren hθ0 hθ)
  | agg h => exact .agg (by rw [renR_toL]; exact RC.rens hθ0 hθ h)
theorem RV.ren {x : XV} {v' : Value} (h : RV ρ x v') : RV ρ' (renV θ x) v' := by
  cases h with
  | a h => exact .a (h.ren hθ0 hθ)
  | tup h =>
    refine .tup ?_
    rename_i l vs
    generalize vs.toList = m at h
    induction h with
    | nil => exact .nil
    | cons h _ ih => exact .cons (h.ren hθ0 hθ) ih
  | any => exact .any
theorem RO.ren {τ : LObj} {o : EO} {o' : AObj} (h : RO ρ τ o o') (hd : isDead (renO θ o) = false) : RO ρ' τ (renO θ o) o' := by
  cases h with
  | cells h => exact .cells (by rw [renR_toL]; exact RC.rens hθ0 hθ h)
  | map h hp hdist =>
    refine .map ?_ hp hdist
    clear hp
    induction h with
    | nil => exact .nil
    | cons h _ ih => exact .cons ⟨h.1, h.2.ren hθ0 hθ⟩ (ih hd)
  | iterN => cases hd
  | iter h => cases hd
  | loop h => cases hd
  | defer => cases hd
end

/-! ### Arguments held against a pattern -/
abbrev AS := List (Nat × Nat)
def AS.le (a a' : AS) : Prop := ∀ b c, assocGet a b = some c → assocGet a' b = some c
theorem AS.le_refl (a : AS) : a.le a := fun _ _ h => h
theorem AS.le_trans {a b c : AS} (h1 : a.le b) (h2 : b.le c) : a.le c := fun x y h => h2 _ _ (h1 _ _ h)
def bindN (nL : Nat) (a : AS) (b c : Nat) : Option AS :=
  match assocGet a b with
  | some c' => bc (Nat.beq c' c) (some a) none
  | none => bc (Nat.blt b nL) (some ((b, c) :: a)) none
def ρof (ρ : Ren) (a : AS) (nL : Nat) : Ren := fun b => if b < nL then (match assocGet a b with | some c => ρ c | none => none) else none
/-- All names of a list are below nL. -/
def AS.lo (a : AS) (nL : Nat) : Prop := ∀ b c, assocGet a b = some c → b < nL
theorem bindN_ok {nL : Nat} {a a1 : AS} {b c : Nat} (hlo : a.lo nL) (h : bindN nL a b c = some a1) : a.le a1 ∧ a1.lo nL ∧ assocGet a1 b = some c := by
  unfold bindN at h
  split at h
  · rename_i c' hc
    cases hb : Nat.beq c' c
    · rw [hb] at h; cases h
    · rw [hb] at h; cases h
      have := Nat.eq_of_beq_eq_true hb
      subst this
      exact ⟨AS.le_refl _, hlo, hc⟩
  · rename_i hn
    cases hb : Nat.blt b nL
    · rw [hb] at h; cases h
    · rw [hb] at h; cases h
      refine ⟨fun x y hx => ?_, fun x y hx => ?_, ?_⟩
      · rw [assocGet_cons]
        cases he : Nat.beq b x
        · rw [bc_false]; exact hx
        · have := Nat.eq_of_beq_eq_true he
          subst this
          rw [hn] at hx; cases hx
      · rw [assocGet_cons] at hx
        cases he : Nat.beq b x
        · rw [he, bc_false] at hx; exact hlo _ _ hx
        · have := Nat.eq_of_beq_eq_true he
          subst this
          exact blt_iff.1 hb
      · rw [assocGet_cons, Nat.beq_refl, bc_true]
theorem ρof_of {ρ : Ren} {a a' : AS} {nL b c : Nat} {x : Nat × LObj} (hle : a.le a') (hlo : a.lo nL) (hb : assocGet a b = some c) (hx : ρ c = some x) : ρof ρ a' nL b = some x := by
  unfold ρof
  rw [if_pos (hlo _ _ hb), hle _ _ hb]; exact hx
def matchS (nL : Nat) (a : AS) (v w : Value) : Option AS :=
  match v, w with
  | .pointer (some ⟨b, o, none⟩), .pointer (some ⟨c, o', none⟩) => bc (Nat.beq o o') (bindN nL a b c) none
  | .slice (some ⟨b, o, none⟩) n k, .slice (some ⟨c, o', none⟩) n' k' => bc (Nat.beq o o') (bc (Nat.beq n n') (bc (Nat.beq k k') (bindN nL a b c) none) none) none
  | .map (some b), .map (some c) => bindN nL a b c
  | .map none, .map none => some a
  | v, w => bc (sameC v w) (some a) none
theorem sameC_self {v w : Value} (h : sameC v w = true) : selfC v = true := by
  unfold sameC at h
  split at h <;> first | rfl | cases h
theorem matchS_ok {nL : Nat} {a a1 : AS} {v w : Value} (hlo : a.lo nL) (h : matchS nL a v w = some a1) : a.le a1 ∧ a1.lo nL ∧ ∀ (a' : AS), a1.le a' → ∀ (ρ : Ren) (v' : Value), RC ρ w v' → RC (ρof ρ a' nL) v v' := by
  unfold matchS at h
  split at h
  · rename_i b o c o'
    cases ho : Nat.beq o o'
    · rw [ho] at h; cases h
    rw [ho, bc_true] at h
    have ho := Nat.eq_of_beq_eq_true ho
    subst ho
    obtain ⟨h1, h2, h3⟩ := bindN_ok hlo h
    refine ⟨h1, h2, fun a' hle ρ v' hv => ?_⟩
    obtain ⟨b', t, hρ, rfl⟩ := hv.ptr
    exact .s (.ptr (ρof_of hle h2 h3 hρ))
  · rename_i b o n k c o' n' k'
    cases ho : Nat.beq o o'
    · rw [ho] at h; cases h
    rw [ho, bc_true] at h
    cases hn : Nat.beq n n'
    · rw [hn] at h; cases h
    rw [hn, bc_true] at h
    cases hk : Nat.beq k k'
    · rw [hk] at h; cases h
    rw [hk, bc_true] at h
    have ho := Nat.eq_of_beq_eq_true ho
    have hn := Nat.eq_of_beq_eq_true hn
    have hk := Nat.eq_of_beq_eq_true hk
    subst ho hn hk
    obtain ⟨h1, h2, h3⟩ := bindN_ok hlo h
    refine ⟨h1, h2, fun a' hle ρ v' hv => ?_⟩
    obtain ⟨b', t, _, hρ, rfl, hq⟩ := hv.slT
    exact .s (.mkSl (ρof_of hle h2 h3 hρ) hq)
  · rename_i b c
    obtain ⟨h1, h2, h3⟩ := bindN_ok hlo h
    refine ⟨h1, h2, fun a' hle ρ v' hv => ?_⟩
    obtain ⟨b', t, hρ, rfl⟩ := hv.mp
    exact .s (.map (ρof_of hle h2 h3 hρ))
  · cases h
    refine ⟨AS.le_refl _, hlo, fun a' hle ρ v' hv => ?_⟩
    obtain rfl := hv.self_eq rfl
    exact .of_self rfl
  · cases hs : sameC v w
    · rw [hs] at h; cases h
    · rw [hs] at h; cases h
      have he := sameC_eq hs
      subst he
      refine ⟨AS.le_refl _, hlo, fun a' hle ρ v' hv => ?_⟩
      obtain rfl := hv.self_eq (sameC_self hs)
      exact .of_self (sameC_self hs)
def matchL (nL : Nat) : AS → List Value → List Value → Option AS
  | a, [], [] => some a
  | a, v :: l, w :: m => (match matchS nL a v w with | some a => matchL nL a l m | none => none)
  | _, _, _ => none
theorem matchL_ok {nL : Nat} : ∀ {l m : List Value} {a a1 : AS}, a.lo nL → matchL nL a l m = some a1 → a.le a1 ∧ a1.lo nL ∧ ∀ (a' : AS), a1.le a' → ∀ (ρ : Ren) (l' : List Value), All2 (RC ρ) m l' → All2 (RC (ρof ρ a' nL)) l l'
  | [], [], a, a1, hlo, h => by
    cases h
    exact ⟨AS.le_refl _, hlo, fun _ _ _ _ h => by cases h; exact .nil⟩
  | v :: l, w :: m, a, a1, hlo, h => by
    simp only [matchL] at h
    split at h
    · rename_i a2 h2
      obtain ⟨g1, g2, g3⟩ := matchS_ok hlo h2
      obtain ⟨k1, k2, k3⟩ := matchL_ok g2 h
      refine ⟨AS.le_trans g1 k1, k2, fun a' hle ρ l' hl => ?_⟩
      cases hl with
      | cons h1 ht => exact .cons (g3 a' (AS.le_trans k1 hle) _ _ h1) (k3 a' hle _ _ ht)
    · cases h
  | [], _ :: _, _, _, _, h => by cases h
  | _ :: _, [], _, _, _, h => by cases h
def matchA (nL : Nat) (a : AS) (x y : XA) : Option AS :=
  match x, y with
  | .c v, .c w => matchS nL a v w
  | .agg r, .agg s => matchL nL a r.toL s.toL
  | _, _ => none
theorem matchA_ok {nL : Nat} {a a1 : AS} {x y : XA} (hlo : a.lo nL) (h : matchA nL a x y = some a1) : a.le a1 ∧ a1.lo nL ∧ ∀ (a' : AS), a1.le a' → ∀ (ρ : Ren) (v' : Value), RA ρ y v' → RA (ρof ρ a' nL) x v' := by
  unfold matchA at h
  split at h
  · obtain ⟨h1, h2, h3⟩ := matchS_ok hlo h
    exact ⟨h1, h2, fun a' hle ρ v' hv => by cases hv with | c hv => exact .c (h3 a' hle ρ v' hv)⟩
  · obtain ⟨h1, h2, h3⟩ := matchL_ok hlo h
    exact ⟨h1, h2, fun a' hle ρ v' hv => by cases hv with | agg hv => exact .agg (h3 a' hle ρ _ hv)⟩
  · cases h
def matchAs (nL : Nat) : AS → List XA → List XA → Option AS
  | a, [], [] => some a
  | a, v :: l, w :: m => (match matchA nL a v w with | some a => matchAs nL a l m | none => none)
  | _, _, _ => none
theorem matchAs_ok {nL : Nat} : ∀ {l m : List XA} {a a1 : AS}, a.lo nL → matchAs nL a l m = some a1 → a.le a1 ∧ a1.lo nL ∧ ∀ (a' : AS), a1.le a' → ∀ (ρ : Ren) (l' : List Value), All2 (RA ρ) m l' → All2 (RA (ρof ρ a' nL)) l l'
  | [], [], a, a1, hlo, h => by
    cases h
    exact ⟨AS.le_refl _, hlo, fun _ _ _ _ h => by cases h; exact .nil⟩
  | v :: l, w :: m, a, a1, hlo, h => by
    simp only [matchAs] at h
    split at h
    · rename_i a2 h2
      obtain ⟨g1, g2, g3⟩ := matchA_ok hlo h2
      obtain ⟨k1, k2, k3⟩ := matchAs_ok g2 h
      refine ⟨AS.le_trans g1 k1, k2, fun a' hle ρ l' hl => ?_⟩
      cases hl with
      | cons h1 ht => exact .cons (g3 a' (AS.le_trans k1 hle) _ _ h1) (k3 a' hle _ _ ht)
    · cases h
  | [], _ :: _, _, _, _, h => by cases h
  | _ :: _, [], _, _, _, h => by cases h
def ownEq (a b : Own) : Bool := match a, b with | .ro, .ro | .exact, .exact | .open, .open => true | _, _ => false
theorem ownEq_eq {a b : Own} (h : ownEq a b = true) : a = b := by cases a <;> cases b <;> first | rfl | cases h
def matchEs (nL : Nat) : AS → List (Value × XA) → List (Value × XA) → Option AS
  | a, [], [] => some a
  | a, v :: l, w :: m => bc (keyEqF v.1 w.1) (match matchA nL a v.2 w.2 with | some a => matchEs nL a l m | none => none) none
  | _, _, _ => none
theorem matchEs_ok {nL : Nat} : ∀ {l m : List (Value × XA)} {a a1 : AS}, a.lo nL → matchEs nL a l m = some a1 → a.le a1 ∧ a1.lo nL ∧ ∀ (a' : AS), a1.le a' → ∀ (ρ : Ren) (l' : List (Value × Value)), RM2 ρ m l' → RM2 (ρof ρ a' nL) l l'
  | [], [], a, a1, hlo, h => by
    cases h
    exact ⟨AS.le_refl _, hlo, fun _ _ _ _ h => by cases h; exact .nil⟩
  | v :: l, w :: m, a, a1, hlo, h => by
    simp only [matchEs] at h
    cases hk : keyEqF v.1 w.1
    · rw [hk] at h; cases h
    rw [hk, bc_true] at h
    rw [keyEqF_eq] at hk
    have hk := keyEq_eq hk
    split at h
    · rename_i a2 h2
      obtain ⟨g1, g2, g3⟩ := matchA_ok hlo h2
      obtain ⟨k1, k2, k3⟩ := matchEs_ok g2 h
      refine ⟨AS.le_trans g1 k1, k2, fun a' hle ρ l' hl => ?_⟩
      cases hl with
      | cons h1 ht => exact .cons ⟨h1.1.trans hk.symm, g3 a' (AS.le_trans k1 hle) _ _ h1.2⟩ (k3 a' hle _ _ ht)
    · cases h
  | [], _ :: _, _, _, _, h => by cases h
  | _ :: _, [], _, _, _, h => by cases h
def matchO (nL : Nat) (a : AS) (o o' : EO) : Option AS :=
  match o, o' with
  | .cells r E m, .cells r' E' m' => bc (Nat.beq E E') (bc (ownEq m m') (matchL nL a r.toL r'.toL) none) none
  | .map kk es c, .map kk' es' c' => bc (kkEq kk kk') (bc (Nat.beq c c') (matchEs nL a es es') none) none
  | _, _ => none
theorem matchO_ok {nL : Nat} {a a1 : AS} {o o' : EO} (hlo : a.lo nL) (h : matchO nL a o o' = some a1) : a.le a1 ∧ a1.lo nL ∧ isDead o' = false ∧ ∀ (a' : AS), a1.le a' → ∀ (ρ : Ren) (τ : LObj) (x : AObj), RO ρ τ o' x → RO (ρof ρ a' nL) τ o x := by
  unfold matchO at h
  split at h
  · rename_i r E m r' E' m'
    cases hE : Nat.beq E E'
    · rw [hE] at h; cases h
    rw [hE, bc_true] at h
    cases hm : ownEq m m'
    · rw [hm] at h; cases h
    rw [hm, bc_true] at h
    have hE := Nat.eq_of_beq_eq_true hE
    have hm := ownEq_eq hm
    subst hE hm
    obtain ⟨h1, h2, h3⟩ := matchL_ok hlo h
    exact ⟨h1, h2, rfl, fun a' hle ρ τ x hx => by cases hx with | cells hx => exact .cells (h3 a' hle ρ _ hx)⟩
  · rename_i kk es c kk' es' c'
    cases hE : kkEq kk kk'
    · rw [hE] at h; cases h
    rw [hE, bc_true] at h
    cases hm : Nat.beq c c'
    · rw [hm] at h; cases h
    rw [hm, bc_true] at h
    have hE : kk = kk' := of_decide_eq_true hE
    have hm := Nat.eq_of_beq_eq_true hm
    subst hE hm
    obtain ⟨h1, h2, h3⟩ := matchEs_ok hlo h
    exact ⟨h1, h2, rfl, fun a' hle ρ τ x hx => by cases hx with | map hx hp hd => exact .map (h3 a' hle ρ _ hx) hp hd⟩
  · cases h
def matchI (nL : Nat) (eh : EH) : AS → List (Nat × EO) → Option AS
  | a, [] => some a
  | a, p :: l => (match assocGet a p.1 with
    | some c => (match eh.get c with
      | some o => (match matchO nL a p.2 o with | some a => matchI nL eh a l | none => none)
      | none => none)
    | none => none)
theorem matchI_ok {nL : Nat} {eh : EH} : ∀ {l : List (Nat × EO)} {a a1 : AS}, a.lo nL → matchI nL eh a l = some a1 → a.le a1 ∧ a1.lo nL ∧ ∀ p ∈ l, ∃ c o, assocGet a1 p.1 = some c ∧ eh.get c = some o ∧ isDead o = false ∧ ∀ (ρ : Ren) (τ : LObj) (x : AObj), RO ρ τ o x → RO (ρof ρ a1 nL) τ p.2 x
  | [], a, a1, hlo, h => by
    cases h
    exact ⟨AS.le_refl _, hlo, fun p hp => by cases hp⟩
  | p :: l, a, a1, hlo, h => by
    simp only [matchI] at h
    split at h
    · rename_i c hc
      split at h
      · rename_i o ho
        split at h
        · rename_i a2 h2
          obtain ⟨g1, g2, g3, g4⟩ := matchO_ok hlo h2
          obtain ⟨k1, k2, k3⟩ := matchI_ok g2 h
          refine ⟨AS.le_trans g1 k1, k2, fun q hq => ?_⟩
          rcases List.mem_cons.1 hq with rfl | hq
          · exact ⟨c, o, k1 _ _ (g1 _ _ hc), ho, g3, fun ρ τ x hx => g4 a1 k1 ρ τ x hx⟩
          · exact k3 q hq
        · cases h
      · cases h
    · cases h

/-! ### A call that was run -/
structure LQ where
  f : Nat
  args : List XA
  inp : List (Nat × EO)
  n : Nat
  v : XV
  objs : List (Nat × EO)
  n' : Nat
def mkEH : List (Nat × EO) → EH
  | [] => .nil
  | p :: l => (mkEH l).set p.1 p.2
def pickR (r : Res) (bs : List Nat) : Option (XV × List (Option EO) × Nat) := match r with | some (v, eh, n) => some (v, bs.map fun b => eh.get b, n) | none => none
def thetaN (a : AS) (nL n b : Nat) : Nat := bc (Nat.blt b nL) (match assocGet a b with | some c => c | none => 0) (Nat.add (Nat.sub b nL) n)
def killI (θ : Nat → Nat) : List (Nat × EO) → EH → EH
  | [], e => e
  | p :: l, e => killI θ l (e.set (θ p.1) .dead)
def graft (θ : Nat → Nat) : List (Nat × EO) → EH → EH
  | [], e => e
  | p :: l, e => graft θ l (e.set (θ p.1) (renO θ p.2))
def nodupN : List Nat → Bool
  | [] => true
  | x :: l => !(l.any fun y => Nat.beq x y) && nodupN l
def s_local (q : LQ) : CallF := fun g args eh n => bc (Nat.beq g q.f)
  (match matchAs q.n [(0, 0), (1, 1)] q.args args with
   | some a => (match matchI q.n eh a q.inp with
     | some a => bc (nodupN (0 :: 1 :: q.inp.map fun p => thetaN a q.n n p.1))
        (some (renV (thetaN a q.n n) q.v, graft (thetaN a q.n n) q.objs (killI (thetaN a q.n n) q.inp eh), n + (q.n' - q.n))) none
     | none => none)
   | none => none) none
structure LQ.Ok (C : CallF) (q : LQ) : Prop where
  two' : Nat.ble 2 q.n = true
  nm : q.inp.map (·.1) = List.range' 2 (q.n - 2)
  run : pickR (C q.f q.args (mkEH q.inp) q.n) (q.objs.map (·.1)) = some (q.v, q.objs.map (fun p => some p.2), q.n')
theorem LQ.Ok.two {C : CallF} {q : LQ} (h : q.Ok C) : 2 ≤ q.n := ble_iff.1 h.two'
theorem LQ.Ok.cov {C : CallF} {q : LQ} (h : q.Ok C) (b : Nat) (h1 : 2 ≤ b) (h2 : b < q.n) : b ∈ q.inp.map (·.1) := by
  rw [h.nm, List.mem_range'_1]; omega
theorem graft_get {θ : Nat → Nat} {c : Nat} {o : EO} : ∀ {l : List (Nat × EO)} {e : EH}, (graft θ l e).get c = some o → (∃ p ∈ l, θ p.1 = c ∧ renO θ p.2 = o) ∨ e.get c = some o
  | [], e, h => .inr h
  | p :: l, e, h => by
    rcases graft_get (l := l) h with ⟨q, hq, h1⟩ | h
    · exact .inl ⟨q, .tail _ hq, h1⟩
    · rw [Tr.get_set] at h
      split at h
      · rename_i he
        cases h
        exact .inl ⟨p, .head _, he.symm, rfl⟩
      · exact .inr h
theorem killI_get {θ : Nat → Nat} {c : Nat} {o : EO} (hd : isDead o = false) : ∀ {l : List (Nat × EO)} {e : EH}, (killI θ l e).get c = some o → e.get c = some o ∧ ∀ p ∈ l, θ p.1 ≠ c
  | [], e, h => ⟨h, fun p hp => by cases hp⟩
  | p :: l, e, h => by
    obtain ⟨h1, h2⟩ := killI_get hd (l := l) h
    rw [Tr.get_set] at h1
    split at h1
    · cases h1; cases hd
    · rename_i he
      refine ⟨h1, fun q hq => ?_⟩
      rcases List.mem_cons.1 hq with rfl | hq
      · exact fun e => he e.symm
      · exact h2 q hq
theorem mkEH_get {c : Nat} {o : EO} : ∀ {l : List (Nat × EO)}, (mkEH l).get c = some o → (c, o) ∈ l
  | [], h => by rw [mkEH, Tr.get_nil] at h; cases h
  | p :: l, h => by
    rw [mkEH, Tr.get_set] at h
    split at h
    · rename_i he
      cases h; subst he; exact .head _
    · exact .tail _ (mkEH_get h)
theorem nodupN_inj {α : Type} {f : α → Nat} : ∀ {l : List α}, nodupN (l.map f) = true → ∀ p ∈ l, ∀ q ∈ l, f p = f q → p = q
  | [], _, p, hp, _, _, _ => by cases hp
  | x :: l, h, p, hp, q, hq, he => by
    simp only [List.map_cons, nodupN, Bool.and_eq_true, Bool.not_eq_true'] at h
    have key : ∀ y ∈ l, f x ≠ f y := fun y hy e => by
      have h1 := h.1
      rw [List.any_eq_false] at h1
      exact h1 (f y) (List.mem_map.2 ⟨y, hy, rfl⟩) (by rw [e]; exact Nat.beq_refl _)
    rcases List.mem_cons.1 hp with hp' | hp' <;> rcases List.mem_cons.1 hq with hq' | hq'
    · rw [hp', hq']
    · exact absurd (hp' ▸ he) (key q hq')
    · exact absurd (hq' ▸ he).symm (key p hp')
    · exact nodupN_inj h.2 p hp' q hq' he
open Classical in
theorem s_local_ok {P : Program} {C : CallF} (hC : CallOk P C) {q : LQ} (hq : q.Ok C) : CallOk P (s_local q) := by
  intro f args eh n r he F ρ h args' hs ha
  unfold s_local at he
  cases hf : Nat.beq f q.f
  · rw [hf] at he; cases he
  rw [hf, bc_true] at he
  have hf := Nat.eq_of_beq_eq_true hf
  subst hf
  split at he
  rotate_left
  · cases he
  rename_i a0 hm0
  split at he
  rotate_left
  · cases he
  rename_i a hm
  cases hnd : nodupN (0 :: 1 :: q.inp.map fun p => thetaN a q.n n p.1)
  · rw [hnd] at he; cases he
  rw [hnd, bc_true] at he
  cases he
  have hstart : AS.lo [(0, 0), (1, 1)] q.n := by
    intro b c hb
    have h2 := hq.two
    simp only [assocGet_cons, assocGet_nil] at hb
    cases h0 : Nat.beq 0 b
    · rw [h0, bc_false] at hb
      cases h1 : Nat.beq 1 b
      · rw [h1, bc_false] at hb; cases hb
      · have := Nat.eq_of_beq_eq_true h1; omega
    · have := Nat.eq_of_beq_eq_true h0; omega
  obtain ⟨g1, g2, g3⟩ := matchAs_ok hstart hm0
  obtain ⟨k1, k2, k3⟩ := matchI_ok g2 hm
  have hz : ∀ b, b < 2 → assocGet a b = some b := fun b hb => by
    refine (AS.le_trans g1 k1) _ _ ?_
    rcases (by omega : b = 0 ∨ b = 1) with rfl | rfl <;> rfl
  generalize hθd : thetaN a q.n n = θ at *
  have θlo : ∀ b c, assocGet a b = some c → θ b = c := fun b c hb => by
    rw [← hθd]; unfold thetaN
    rw [blt_iff.2 (k2 _ _ hb), bc_true, hb]
  have θhi : ∀ b, q.n ≤ b → θ b = b - q.n + n := fun b hb => by
    rw [← hθd]; unfold thetaN
    rw [blt_false.2 hb, bc_false]; rfl
  have hnd2 := hnd
  simp only [nodupN, Bool.and_eq_true, Bool.not_eq_true'] at hnd2
  have θinj := nodupN_inj hnd2.2.2
  have θ2 : ∀ p ∈ q.inp, 2 ≤ θ p.1 := fun p hp => by
    have h0 := hnd2.1
    have h1 := hnd2.2.1
    rw [List.any_eq_false] at h0 h1
    have e0 := h0 (θ p.1) (.tail _ (List.mem_map.2 ⟨p, hp, rfl⟩))
    have e1 := h1 (θ p.1) (List.mem_map.2 ⟨p, hp, rfl⟩)
    have n0 : θ p.1 ≠ 0 := fun e => e0 (by rw [e]; rfl)
    have n1 : θ p.1 ≠ 1 := fun e => e1 (by rw [e]; rfl)
    omega
  generalize hρL : ρof ρ a q.n = ρL at *
  have ρLlo : ∀ b c, assocGet a b = some c → ρL b = ρ c := fun b c hb => by
    rw [← hρL]; unfold ρof
    rw [if_pos (k2 _ _ hb), hb]
  have ρLnone : ∀ b, q.n ≤ b → ρL b = none := fun b hb => by
    rw [← hρL]; unfold ρof
    rw [if_neg (by omega)]
  -- the input objects
  have inp : ∀ p ∈ q.inp, ∃ o b' τ o', assocGet a p.1 = some (θ p.1) ∧ eh.get (θ p.1) = some o ∧ isDead o = false ∧ ρ (θ p.1) = some (b', τ) ∧ ρL p.1 = some (b', τ) ∧ h b' = some o' ∧ RO ρL τ p.2 o' := by
    intro p hp
    obtain ⟨c, o, h1, h2, h3, h4⟩ := k3 p hp
    obtain ⟨b', τ, o', h5, h6, h7⟩ := hs.obj c o h2 h3
    have hc := θlo _ _ h1
    rw [hc]
    exact ⟨o, b', τ, o', h1, h2, h3, h5, by rw [ρLlo _ _ h1]; exact h5, h6, hρL ▸ h4 ρ τ o' h7⟩
  have hcov : ∀ b, 2 ≤ b → b < q.n → ∃ p ∈ q.inp, p.1 = b := fun b h1 h2 => by
    obtain ⟨p, hp, rfl⟩ := List.mem_map.1 (hq.cov b h1 h2)
    exact ⟨p, hp, rfl⟩
  have ρLsome : ∀ b, b < q.n → ∃ x, ρL b = some x ∧ ρ (θ b) = some x := fun b hb => by
    by_cases h2 : 2 ≤ b
    · obtain ⟨p, hp, rfl⟩ := hcov b h2 hb
      obtain ⟨o, b', τ, o', _, _, _, h5, h6, _⟩ := inp p hp
      exact ⟨_, h6, h5⟩
    · have hb2 := hz b (by omega)
      rw [ρLlo _ _ hb2, θlo _ _ hb2]
      rcases (by omega : b = 0 ∨ b = 1) with rfl | rfl
      · obtain ⟨t, ht⟩ := hs.z0; exact ⟨_, ht, ht⟩
      · obtain ⟨t, ht⟩ := hs.z1; exact ⟨_, ht, ht⟩
  -- the frame: all but the input objects
  let G : H := fun c => if ∃ p ∈ q.inp, ∃ t, ρL p.1 = some (c, t) then none else h c
  have hLs : XSim G ρL q.n (mkEH q.inp) h := by
    refine ⟨?_, ?_, ?_, ρLnone, hq.two, ?_, ?_, ?_, ?_⟩
    · obtain ⟨t, ht⟩ := hs.z0
      exact ⟨t, by rw [ρLlo _ _ (hz 0 (by omega))]; exact ht⟩
    · obtain ⟨t, ht⟩ := hs.z1
      exact ⟨t, by rw [ρLlo _ _ (hz 1 (by omega))]; exact ht⟩
    · intro b b' t h2 hb
      by_cases hlt : b < q.n
      · obtain ⟨p, hp, rfl⟩ := hcov b h2 hlt
        obtain ⟨o, c', τ, o', _, _, _, h5, h6, h7, _⟩ := inp p hp
        rw [h6] at hb; cases hb
        exact hs.two _ _ _ (θ2 p hp) h5
      · rw [ρLnone b (by omega)] at hb; cases hb
    · intro b o hb hd
      have hm := mkEH_get hb
      obtain ⟨o2, b', τ, o', _, _, _, _, h6, h7, h8⟩ := inp _ hm
      exact ⟨b', τ, o', h6, h7, h8⟩
    · intro b c o o' x t t' hb _ hc _ hx hx'
      have hb := mkEH_get hb
      have hc := mkEH_get hc
      obtain ⟨ob, bb, τb, ob', _, q2, q3, q4, q5, _⟩ := inp _ hb
      obtain ⟨oc, bc', τc, oc', _, p2, p3, p4, p5, _⟩ := inp _ hc
      rw [q5] at hx; cases hx
      rw [p5] at hx'; cases hx'
      have := hs.inj _ _ _ _ _ _ _ q2 q3 p2 p3 q4 p4
      have := θinj _ hb _ hc this
      exact congrArg Prod.fst this
    · intro c o hc
      by_cases hp : ∃ p ∈ q.inp, ∃ t, ρL p.1 = some (c, t)
      · simp only [G, if_pos hp] at hc; cases hc
      · simp only [G, if_neg hp] at hc; exact hc
    · intro b o x t hb _ hx
      have hb := mkEH_get hb
      simp only [G]
      rw [if_pos ⟨_, hb, t, hx⟩]
  have hrun := hq.run
  unfold pickR at hrun
  split at hrun
  rotate_left
  · cases hrun
  rename_i v1 ehL n1 hrun1
  simp only [Option.some.injEq, Prod.mk.injEq] at hrun
  obtain ⟨rfl, hobjs, rfl⟩ := hrun
  have hget : ∀ p ∈ q.objs, ehL.get p.1 = some p.2 := by
    intro p hp
    obtain ⟨i, hi⟩ := List.mem_iff_getElem?.1 hp
    have := congrArg (·[i]?) hobjs
    simpa [hi] using this
  refine (hC _ _ _ _ _ hrun1 G ρL h args' hLs (hρL ▸ g3 a k1 ρ args' ha)).mono ?_
  rintro v' h' ⟨ρL', hle, hs', hv'⟩
  have h00 : ∀ x, ρL' 0 = some x → (fun b => if b < n then ρ b else ρL' (b - n + q.n)) 0 = some x := fun x hx => by
    obtain ⟨t, ht⟩ := hs.z0
    have h1 : ρL 0 = some (0, t) := by rw [ρLlo _ _ (hz 0 (by omega))]; exact ht
    have := hle _ _ h1
    rw [this] at hx; cases hx
    have := hs.n2
    simp only [if_pos (show 0 < n by omega)]; exact ht
  refine ⟨fun b => if b < n then ρ b else ρL' (b - n + q.n), ?_, ?_, ?_⟩
  · intro b x hx
    have : b < n := by
      rcases Nat.lt_or_ge b n with h1 | h1
      · exact h1
      · rw [hs.top b h1] at hx; cases hx
    simp only [if_pos this]; exact hx
  rotate_left
  · refine hv'.ren h00 fun b x hx => ?_
    by_cases hb : b < q.n
    · obtain ⟨y, hy, hy2⟩ := ρLsome b hb
      have := hle _ _ hy
      rw [this] at hx; cases hx
      have hlt : θ b < n := by
        rcases Nat.lt_or_ge (θ b) n with h1 | h1
        · exact h1
        · rw [hs.top _ h1] at hy2; cases hy2
      simp only [if_pos hlt]; exact hy2
    · rw [θhi b (by omega)]
      simp only [if_neg (show ¬ (b - q.n + n < n) by omega)]
      rw [show b - q.n + n - n + q.n = b by omega]; exact hx
  have hθ : ∀ b x, ρL' b = some x → (fun b => if b < n then ρ b else ρL' (b - n + q.n)) (θ b) = some x := fun b x hx => by
    by_cases hb : b < q.n
    · obtain ⟨y, hy, hy2⟩ := ρLsome b hb
      have := hle _ _ hy
      rw [this] at hx; cases hx
      have hlt : θ b < n := by
        rcases Nat.lt_or_ge (θ b) n with h1 | h1
        · exact h1
        · rw [hs.top _ h1] at hy2; cases hy2
      simp only [if_pos hlt]; exact hy2
    · rw [θhi b (by omega)]
      simp only [if_neg (show ¬ (b - q.n + n < n) by omega)]
      rw [show b - q.n + n - n + q.n = b by omega]; exact hx
  have hρle : ρ.le (fun b => if b < n then ρ b else ρL' (b - n + q.n)) := by
    intro b x hx
    have : b < n := by
      rcases Nat.lt_or_ge b n with h1 | h1
      · exact h1
      · rw [hs.top b h1] at hx; cases hx
    simp only [if_pos this]; exact hx
  generalize hρ' : (fun b => if b < n then ρ b else ρL' (b - n + q.n)) = ρ' at *
  -- what is there behind the call
  have objN : ∀ c o, (graft θ q.objs (killI θ q.inp eh)).get c = some o → isDead o = false →
      (∃ p ∈ q.objs, θ p.1 = c ∧ o = renO θ p.2 ∧ ehL.get p.1 = some p.2 ∧ isDead p.2 = false) ∨ (eh.get c = some o ∧ ∀ p ∈ q.inp, θ p.1 ≠ c) := by
    intro c o hc hd
    rcases graft_get hc with ⟨p, hp, rfl, rfl⟩ | hc
    · refine .inl ⟨p, hp, rfl, rfl, hget p hp, ?_⟩
      cases hpd : p.2 <;> first | rfl | (rw [hpd] at hd; cases hd)
    · exact .inr (killI_get hd hc)
  have old : ∀ c o b' τ o', eh.get c = some o → isDead o = false → (∀ p ∈ q.inp, θ p.1 ≠ c) → ρ c = some (b', τ) → h b' = some o' → G b' = some o' := by
    intro c o b' τ o' h1 h2 h3 h4 h5
    have : ¬ ∃ p ∈ q.inp, ∃ t, ρL p.1 = some (b', t) := by
      rintro ⟨p, hp, t, ht⟩
      obtain ⟨o2, b2, τ2, o2', _, e2, e3, e4, e5, _⟩ := inp p hp
      rw [e5] at ht; cases ht
      exact h3 p hp (hs.inj _ _ _ _ _ _ _ e2 e3 h1 h2 e4 h4)
    simp only [G, if_neg this]; exact h5
  have newAt : ∀ p ∈ q.objs, isDead p.2 = false → ehL.get p.1 = some p.2 → ∃ b' τ o', ρL' p.1 = some (b', τ) ∧ ρ' (θ p.1) = some (b', τ) ∧ h' b' = some o' ∧ RO ρL' τ p.2 o' ∧ G b' = none := by
    intro p hp hd hg
    obtain ⟨b', τ, o', h1, h2, h3⟩ := hs'.obj _ _ hg hd
    exact ⟨b', τ, o', h1, hθ _ _ h1, h2, h3, hs'.fsep _ _ _ _ hg hd h1⟩
  refine ⟨?_, ?_, ?_, ?_, ?_, ?_, ?_, ?_, ?_⟩
  · obtain ⟨t, ht⟩ := hs.z0; exact ⟨t, hρle _ _ ht⟩
  · obtain ⟨t, ht⟩ := hs.z1; exact ⟨t, hρle _ _ ht⟩
  · intro b b' t h2 hb
    rw [← hρ'] at hb
    by_cases hlt : b < n
    · simp only [if_pos hlt] at hb; exact hs.two _ _ _ h2 hb
    · simp only [if_neg hlt] at hb
      have := hq.two
      exact hs'.two _ _ _ (by omega) hb
  · intro b hb
    have hb : n + (q.n' - q.n) ≤ b := hb
    rw [← hρ']
    simp only [if_neg (show ¬ b < n by omega)]
    exact hs'.top _ (show q.n' ≤ b - n + q.n by omega)
  · have := hs.n2
    show 2 ≤ n + (q.n' - q.n)
    omega
  · intro c o hc hd
    rcases objN c o hc hd with ⟨p, hp, rfl, rfl, h1, h2⟩ | ⟨h1, h2⟩
    · obtain ⟨b', τ, o', e1, e2, e3, e4, _⟩ := newAt p hp h2 h1
      exact ⟨b', τ, o', e2, e3, e4.ren h00 hθ hd⟩
    · obtain ⟨b', τ, o', e1, e2, e3⟩ := hs.obj c o h1 hd
      exact ⟨b', τ, o', hρle _ _ e1, hs'.fr _ _ (old _ _ _ _ _ h1 hd h2 e1 e2), e3.mono hρle⟩
  · intro b c o o' x t t' hb hbd hc hcd hx hx'
    rcases objN b o hb hbd with ⟨p, hp, rfl, rfl, h1, h2⟩ | ⟨h1, h2⟩ <;> rcases objN c o' hc hcd with ⟨p', hp', rfl, rfl, h1', h2'⟩ | ⟨h1', h2'⟩
    · obtain ⟨b1, τ1, o1, e1, e2, e3, e4, _⟩ := newAt p hp h2 h1
      obtain ⟨b2, τ2, o2, f1, f2, f3, f4, _⟩ := newAt p' hp' h2' h1'
      rw [e2] at hx; cases hx
      rw [f2] at hx'; cases hx'
      rw [hs'.inj _ _ _ _ _ _ _ h1 h2 h1' h2' e1 f1]
    · obtain ⟨b1, τ1, o1, e1, e2, e3, e4, e5⟩ := newAt p hp h2 h1
      obtain ⟨b2, τ2, o2, f1, f2, f3⟩ := hs.obj c _ h1' hcd
      rw [e2] at hx; cases hx
      rw [hρle _ _ f1] at hx'; cases hx'
      rw [old _ _ _ _ _ h1' hcd h2' f1 f2] at e5; cases e5
    · obtain ⟨b1, τ1, o1, e1, e2, e3, e4, e5⟩ := newAt p' hp' h2' h1'
      obtain ⟨b2, τ2, o2, f1, f2, f3⟩ := hs.obj b _ h1 hbd
      rw [e2] at hx'; cases hx'
      rw [hρle _ _ f1] at hx; cases hx
      rw [old _ _ _ _ _ h1 hbd h2 f1 f2] at e5; cases e5
    · obtain ⟨b1, τ1, o1, e1, e2, e3⟩ := hs.obj b _ h1 hbd
      obtain ⟨b2, τ2, o2, f1, f2, f3⟩ := hs.obj c _ h1' hcd
      rw [hρle _ _ e1] at hx; cases hx
      rw [hρle _ _ f1] at hx'; cases hx'
      exact hs.inj _ _ _ _ _ _ _ h1 hbd h1' hcd e1 f1
  · intro c o hc
    refine hs'.fr c o ?_
    have : ¬ ∃ p ∈ q.inp, ∃ t, ρL p.1 = some (c, t) := by
      rintro ⟨p, hp, t, ht⟩
      obtain ⟨o2, b2, τ2, o2', _, e2, e3, e4, e5, _⟩ := inp p hp
      rw [e5] at ht; cases ht
      rw [hs.fsep _ _ _ _ e2 e3 e4] at hc; cases hc
    simp only [G, if_neg this]; exact hs.fr c o hc
  · intro b o x t hb hd hx
    rcases objN b o hb hd with ⟨p, hp, rfl, rfl, h1, h2⟩ | ⟨h1, h2⟩
    · obtain ⟨b1, τ1, o1, e1, e2, e3, e4, e5⟩ := newAt p hp h2 h1
      rw [e2] at hx; cases hx
      cases hF : F x with
      | none => rfl
      | some y =>
        exfalso
        have : ¬ ∃ p ∈ q.inp, ∃ t, ρL p.1 = some (x, t) := by
          rintro ⟨p, hp, t, ht⟩
          obtain ⟨o2, b2, τ2, o2', _, g2, g3, g4, g5, _⟩ := inp p hp
          rw [g5] at ht; cases ht
          rw [hs.fsep _ _ _ _ g2 g3 g4] at hF; cases hF
        simp only [G, if_neg this] at e5
        rw [hs.fr _ _ hF] at e5; cases e5
    · obtain ⟨b1, τ1, o1, e1, e2, e3⟩ := hs.obj b _ h1 hd
      rw [hρle _ _ e1] at hx; cases hx
      exact hs.fsep _ _ _ _ h1 hd e1
/-- One summary, or another. -/
def orR (a : Res) (b : Res) : Res := @Option.rec (XV × EH × Nat) (fun _ => Res) b (fun r => some r) a
def orS (S S' : CallF) : CallF := fun g args eh n => orR (S g args eh n) (S' g args eh n)
theorem orS_ok {P : Program} {S S' : CallF} (h : CallOk P S) (h' : CallOk P S') : CallOk P (orS S S') := by
  intro f args eh n r he
  unfold orS at he
  cases hs : S f args eh n with
  | none => rw [hs] at he; exact h' f args eh n r he
  | some x => rw [hs] at he; exact h f args eh n r (hs.trans he)
abbrev I (k : IntKind) (z : Int) : Value := .int k z
abbrev Pt (b o : Nat) : Value := .pointer (some ⟨b, o, none⟩)
abbrev Ls (b o n c : Nat) : Value := .slice (some ⟨b, o, none⟩) n c
end
end Go.Proofs.YtbmfblmebhobiaaGreat.AM

/-
  maps.Clone over the abstract memory, and for the executor.
-/
set_option linter.unusedSimpArgs false
set_option linter.unusedVariables false
namespace Go.Proofs.YtbmfblmebhobiaaGreat.AM
open Go.RowKit
section
variable {P : Program}
/-- What is shown of the loaded function. -/
structure IsClone (P : Program) (f : FuncId) : Prop where
  some : ∀ (b : Nat) (es : Array MapEntry) (clock : Nat) (w : World), w.heap[b]? = some (.map es clock) → Calls P f #[.map (some b)] w fun e w' => e = .returned (.map (some w.heap.size)) ∧ w' = w.alloc (.map es clock)
  none : ∀ w : World, Calls P f #[.map none] w fun e w' => e = .returned (.map none) ∧ w' = w
theorem spec_clone {f : FuncId} (hc : IsClone P f) {b : Nat} {kk : KK} {es : List (Value × Value)} {c : Nat} {h : H} {Q : Value → H → Prop} (hb : h b = some (.map kk es c)) (hq : o_newObj (.map kk es c) h fun b h => Q (.map (some b)) h) : Spec P f [.map (some b)] h Q := by
  intro W ι w cargs hr ha
  obtain ⟨cv, hcv, ha1⟩ : ∃ cv, cargs = #[cv] ∧ ARel ι (.map (some b)) cv := by
    obtain ⟨l⟩ := cargs
    cases ha with
    | cons h1 t => cases t; exact ⟨_, rfl, h1⟩
  subst hcv
  obtain ⟨l, hl, rfl⟩ := (VRel.a ha1).map
  obtain ⟨hB, h0, ces, g1, g2, g3, g4, g5⟩ := hr.obj' hb hl
  refine (hc.some _ _ _ _ g1).mono ?_
  rintro e w' ⟨rfl, rfl⟩
  obtain ⟨b', ι', h1, h2, h3, h4⟩ := sim_newObj (O := .map ces c) (o := .map kk es c) hr (fun b' => by
    by_cases hb' : ι b' = Option.none
    · exact .inl ⟨hr.below.size, rfl, ces, alloc_get_new w _, g2.mono fun _ _ h => ⟨h.1, h.2.1, h.2.2.mono (Env.le_set _ hb')⟩, g3, g4, g5⟩
    · exact .inr hb') hq
  exact ⟨_, _, ι', _, rfl, h1, h3, .a (.c (.s (.map h2))), h4⟩
theorem spec_cloneN {f : FuncId} (hc : IsClone P f) {h : H} {Q : Value → H → Prop} (hq : Q (.map none) h) : Spec P f [.map none] h Q := by
  intro W ι w cargs hr ha
  obtain ⟨cv, hcv, ha1⟩ : ∃ cv, cargs = #[cv] ∧ ARel ι (.map none) cv := by
    obtain ⟨l⟩ := cargs
    cases ha with
    | cons h1 t => cases t; exact ⟨_, rfl, h1⟩
  subst hcv
  obtain rfl := (VRel.a ha1).mapNil
  refine (hc.none w).mono ?_
  rintro e w' ⟨rfl, rfl⟩
  exact ⟨_, _, ι, h, rfl, fun _ _ h => h, hr, .a (.c (.s .mapNil)), hq⟩
noncomputable def s_clone (f : Nat) : CallF := fun g args eh n => bc (Nat.beq g f) (match args with
  | [.c (.map Option.none)] => some (.a (.c (.map none)), eh, n)
  | [.c (.map (some b))] => (match eh.get b with
    | some (.map kk es c) => some (.a (.c (.map (some n))), eh.set n (.map kk es c), n + 1)
    | _ => Option.none)
  | _ => Option.none) Option.none
theorem s_clone_ok {f : Nat} (hc : IsClone P f) : CallOk P (s_clone f) := by
  intro g args eh n r he F ρ h args' hs ha
  unfold s_clone at he
  cases hf : Nat.beq g f
  · rw [hf] at he; cases he
  rw [hf, bc_true] at he
  obtain rfl := Nat.eq_of_beq_eq_true hf
  split at he
  · cases he
    cases ha with
    | cons h1 t =>
      cases t
      obtain rfl := h1.toC.self_eq rfl
      exact spec_cloneN hc ⟨ρ, Ren.le_refl ρ, hs, .a (.c (.of_self rfl))⟩
  · rename_i b
    split at he
    · rename_i kk es c hg
      cases he
      cases ha with
      | cons h1 t =>
        cases t
        obtain ⟨b', t, hρ, rfl⟩ := h1.toC.mp
        obtain ⟨c', τ, o', e1, e2, e3⟩ := hs.obj b _ hg rfl
        rw [hρ] at e1; cases e1
        cases e3 with
        | map k1 k2 k3 =>
          exact spec_clone hc e2 (newObj_ok hs rfl (.map k1 k2 k3) fun b' ρ' t h' hl hb hs' => ⟨ρ', hl, hs', .a (.c (.s (.map hb)))⟩)
    · cases he
  · cases he
end
end Go.Proofs.YtbmfblmebhobiaaGreat.AM

/-
  A loop that copies the pages of a map into another map: in whatever order they come; for the executor.
-/
set_option linter.unusedSimpArgs false
set_option linter.unusedVariables false
namespace Go.Proofs.YtbmfblmebhobiaaGreat.AM
noncomputable section

/-! ### Objects that are there already -/
section
variable {F : H} {ρ : Ren} {n : Nat} {eh : EH} {h : H}
theorem XSim.name (hs : XSim F ρ n eh h) {b' : Nat} (h2 : 2 ≤ b') (τ : LObj) : ρ.le (fun b => if b = n then some (b', τ) else ρ b) ∧ XSim F (fun b => if b = n then some (b', τ) else ρ b) (n + 1) eh h := by
  have hn := hs.top n (Nat.le_refl n)
  have hle : ρ.le (fun b => if b = n then some (b', τ) else ρ b) := by
    intro b x hx
    have : b ≠ n := by rintro rfl; rw [hn] at hx; cases hx
    simp only [if_neg this]; exact hx
  have h22 := hs.n2
  have low : ∀ b o, eh.get b = some o → isDead o = false → b ≠ n := by
    rintro b o hb hd rfl
    obtain ⟨b', t, o', h1, _⟩ := hs.obj b o hb hd
    rw [hn] at h1; cases h1
  refine ⟨hle, ⟨?_, ?_, ?_, ?_, by omega, ?_, ?_, hs.fr, ?_⟩⟩
  · obtain ⟨t, ht⟩ := hs.z0; exact ⟨t, hle _ _ ht⟩
  · obtain ⟨t, ht⟩ := hs.z1; exact ⟨t, hle _ _ ht⟩
  · intro b c t hb2 hc
    by_cases e : b = n
    · simp only [if_pos e, Option.some.injEq, Prod.mk.injEq] at hc; omega
    · simp only [if_neg e] at hc; exact hs.two _ _ _ hb2 hc
  · intro b hb
    simp only [if_neg (show b ≠ n by omega)]
    exact hs.top b (by omega)
  · intro b q hq hqd
    obtain ⟨c, t, p, h1, h3, h4⟩ := hs.obj b q hq hqd
    exact ⟨c, t, p, hle _ _ h1, h3, h4.mono hle⟩
  · intro b c q q' x t t' hq hqd hq' hqd' hx hx'
    simp only [if_neg (low _ _ hq hqd)] at hx
    simp only [if_neg (low _ _ hq' hqd')] at hx'
    exact hs.inj _ _ _ _ _ _ _ hq hqd hq' hqd' hx hx'
  · intro b q x t hq hqd hx
    simp only [if_neg (low _ _ hq hqd)] at hx
    exact hs.fsep _ _ _ _ hq hqd hx
theorem XSim.put (hs : XSim F ρ n eh h) {b b' : Nat} {τ : LObj} {o : EO} {o' : AObj} (hb : ρ b = some (b', τ)) (hh : h b' = some o') (ho : RO ρ τ o o') (hF : F b' = none)
    (hinj : ∀ c p t, c ≠ b → eh.get c = some p → isDead p = false → ρ c = some (b', t) → False) : XSim F ρ n (eh.set b o) h := by
  refine ⟨hs.z0, hs.z1, hs.two, hs.top, hs.n2, ?_, ?_, hs.fr, ?_⟩
  · intro c p hp hpd
    rw [Tr.get_set] at hp
    by_cases e : c = b
    · rw [if_pos e] at hp; cases hp
      subst e
      exact ⟨b', τ, o', hb, hh, ho⟩
    · rw [if_neg e] at hp
      exact hs.obj c p hp hpd
  · intro c d p r x t t' hp hpd hr hrd hx hx'
    rw [Tr.get_set] at hp hr
    by_cases e : c = b <;> by_cases e' : d = b
    · omega
    · rw [if_neg e'] at hr
      subst e
      rw [hb] at hx; cases hx
      exact (hinj _ _ _ e' hr hrd hx').elim
    · rw [if_neg e] at hp
      subst e'
      rw [hb] at hx'; cases hx'
      exact (hinj _ _ _ e hp hpd hx).elim
    · rw [if_neg e] at hp
      rw [if_neg e'] at hr
      exact hs.inj _ _ _ _ _ _ _ hp hpd hr hrd hx hx'
  · intro c p x t hp hpd hx
    rw [Tr.get_set] at hp
    by_cases e : c = b
    · subst e
      rw [hb] at hx; cases hx; exact hF
    · rw [if_neg e] at hp; exact hs.fsep _ _ _ _ hp hpd hx
theorem XSim.bump (hs : XSim F ρ n eh h) {m : Nat} (hm : n ≤ m) : XSim F ρ m eh h :=
  ⟨hs.z0, hs.z1, hs.two, fun b hb => hs.top b (by omega), by have := hs.n2; omega, hs.obj, hs.inj, hs.fr, hs.fsep⟩
end

/-! ### The loop over the abstract memory -/
theorem nilp {a : Addr} {K : Value → Prop} : o_nilCheck (.pointer (some a)) K = K (.pointer (some a)) := rfl
def copyBody (E : TypeId) (Z : List Value) (x3 x23 : Value) (h : H) (Kn : Value → Value → H → Prop) (Ke0 : Value → H → Prop) : Prop :=
  o_next x23 h fun v24 h => o_extract v24 0 fun v25 => o_if v25 (o_entry x23 h fun v26 => o_extract v26 0 fun v27 => o_extract v26 1 fun v28 => o_nilCheck v28 fun v30 => o_load true 257 v30 h fun v31 =>
    o_new Z E .exact h fun b6 h => o_store 257 (.pointer (some ⟨b6, 0, none⟩)) v31 h fun h => o_nilCheck x3 fun v33 => o_fieldAddr 1 v33 fun v34 => o_load false 1 v34 h fun v35 =>
    o_mapUpdate (.int .u32) v35 v27 (.pointer (some ⟨b6, 0, none⟩)) h fun h => Kn x3 x23 h) (Ke0 x3 h)
def ents (β : List (Value × Nat)) : List (Value × Value) := β.map fun p => (p.1, .pointer (some ⟨p.2, 0, none⟩))
structure CopyInv (E : TypeId) (es : List (Value × Value)) (pm cm it ck : Nat) (h : H) (left : List Value) (β : List (Value × Nat)) (h' : H) : Prop where
  f_it : ∃ cur, h' it = some (.iter (some pm) left ck cur)
  f_cm : h' cm = some (.map (.int .u32) (ents β) β.length)
  f_fr : ∀ c o, c ≠ cm → h c = some o → h' c = some o
  f_pg : ∀ p ∈ β, ∃ pb cs E' w, (p.1, .pointer (some ⟨pb, 0, none⟩)) ∈ es ∧ h pb = some (.cells cs E' w) ∧ h' p.2 = some (.cells cs E .exact) ∧ h p.2 = none ∧ 2 ≤ p.2
  f_nd : (β.map (·.2)).Nodup
  f_lf : ∀ e ∈ es, left.any (keyEq e.1) = !(β.any fun p => keyEq e.1 p.1)
  f_ds : Dist (ents β)
theorem dist_snoc {l : List (Value × Value)} {e : Value × Value} (hd : Dist l) (h : ∀ x ∈ l, keyEq x.1 e.1 = false) : Dist (l ++ [e]) :=
  List.pairwise_append.2 ⟨hd, List.pairwise_singleton _ _, fun a ha b hb => by rw [List.mem_singleton.1 hb]; exact h a ha⟩
theorem mset_out {es : List (Value × Value)} {k v : Value} (h : ∀ e ∈ es, keyEq k e.1 = false) : mset es k v = es ++ [(k, v)] ∧ mhas es k = false := by
  refine ⟨mset_new h, ?_⟩
  unfold mhas
  rw [mfind_none.2 h]; rfl
theorem any_false_filter {l : List Value} {k e : Value} (hk : keyEq k k = true) : (l.filter fun x => !keyEq k x).any (keyEq e) = (l.any (keyEq e) && !keyEq e k) := by
  induction l with
  | nil => rfl
  | cons a l ih =>
    simp only [List.filter_cons, List.any_cons]
    cases hka : keyEq k a
    · simp only [Bool.not_false, if_true, List.any_cons, ih]
      cases hea : keyEq e a
      · simp
      · have := keyEq_eq hea
        subst this
        rw [keyEq_symm hka]; simp
    · have := keyEq_eq hka
      subst this
      simp only [Bool.not_true, Bool.false_eq_true, if_false, ih]
      cases keyEq e k <;> simp
theorem filter_less {l : List Value} {p : Value → Bool} (h : l.any p = true) : (l.filter fun k => !p k).length < l.length := by
  induction l with
  | nil => cases h
  | cons a l ih =>
    simp only [List.any_cons, Bool.or_eq_true] at h
    simp only [List.filter_cons]
    cases hp : p a
    · rw [hp] at h
      simp only [Bool.not_false, if_true, List.length_cons]
      have := ih (by simpa using h)
      omega
    · simp only [Bool.not_true, if_false, List.length_cons]
      exact Nat.lt_succ_of_le (List.length_filter_le _ _)
theorem copy_loop {E : TypeId} {Z : List Value} (hZ : Z.length = 257) {es : List (Value × Value)} {pm cm it ck cb co : Nat} {h h1 : H} (hd : Dist es) (hkk : ∀ e ∈ es, kkHas (.int .u32) e.1 = true)
    (hpm : h pm = some (.map (.int .u32) es ck)) (hpc : pm ≠ cm) (hcm : h cm = some (.map (.int .u32) [] 0)) (hcb : cellAt h cb (co + 1) = some (.map (some cm)))
    (hpg : ∀ e ∈ es, ∃ pb cs E' w, e.2 = .pointer (some ⟨pb, 0, none⟩) ∧ h pb = some (.cells cs E' w) ∧ cs.length = 257)
    (hit : h it = none) (h1e : h1 = upd h it (.iter (some pm) (es.map (·.1)) ck none)) {Ke0 : Value → H → Prop}
    (hk : ∀ β h', (∃ left, CopyInv E es pm cm it ck h left β h') → (∀ e ∈ es, β.any (fun p => keyEq e.1 p.1) = true) → Ke0 (.pointer (some ⟨cb, co, none⟩)) h') :
    sloop (S := Value × Value) (fun s h K => copyBody E Z s.1 s.2 h (fun a b h => K (a, b) h) Ke0) (.pointer (some ⟨cb, co, none⟩), .pointer (some ⟨it, 0, none⟩)) h1 := by
  subst h1e
  have hkr : ∀ e ∈ es, keyEq e.1 e.1 = true := fun e he => (keyEq_iff (hkk e he) (hkk e he)).2 rfl
  have hitc : it ≠ cm := fun e => by rw [e, hcm] at hit; cases hit
  refine ⟨fun m s h' => ∃ left β, s = (.pointer (some ⟨cb, co, none⟩), .pointer (some ⟨it, 0, none⟩)) ∧ m = left.length ∧ CopyInv E es pm cm it ck h left β h', ⟨(es.map (·.1)).length, es.map (·.1), [], rfl, rfl, ?_⟩, ?_⟩
  · refine ⟨⟨none, upd_same _ _ _⟩, ?_, ?_, (fun p hp => by cases hp), .nil, ?_, .nil⟩
    · rw [upd_ne _ _ hitc.symm]; exact hcm
    · intro c o hc hco
      rw [upd_ne _ _ (by rintro rfl; rw [hit] at hco; cases hco)]; exact hco
    · intro e he
      simp only [List.any_nil, Bool.not_false, List.any_eq_true]
      exact ⟨e.1, List.mem_map.2 ⟨e, he, rfl⟩, hkr e he⟩
  rintro m s h' ⟨left, β, rfl, rfl, hI⟩
  obtain ⟨⟨cur, hit'⟩, hcm', hfr, hpgs, hnd, hlf, hds⟩ := hI
  have hpm' : h' pm = some (.map (.int .u32) es ck) := hfr _ _ hpc hpm
  unfold copyBody o_next
  simp only [hit', hpm']
  refine ⟨trivial, fun e he hany => ?_, fun hall => ?_⟩
  · rw [ex0', if_true']
    unfold o_entry
    have hpit : pm ≠ it := fun q => by rw [q, hit] at hpm; cases hpm
    simp only [upd_same, upd_ne _ _ hpit, hpm', mfind_mem hd he (hkr e he)]
    refine ⟨trivial, ?_⟩
    rw [ex0, ex1]
    obtain ⟨pb, cs, E', w, hpe, hpb, hlen⟩ := hpg e he
    rw [hpe]
    rw [nilp]
    have hpbc : pb ≠ cm := fun q => by rw [q, hcm] at hpb; cases hpb
    have hpbi : pb ≠ it := fun q => by rw [q, hit] at hpb; cases hpb
    have hpb' := hfr _ _ hpbc hpb
    rw [load_agg (l := cs) (by rw [cellsAt_of (by rw [upd_ne _ _ hpbi]; exact hpb') (by omega)]; simp [← hlen])]
    intro b6 hb62 hb6
    rw [store_ok (upd_same _ _ _) (by simp) (by rfl) (by simp [Value.cells, hlen]) (by rw [hZ]; omega)]
    have hset : setL Z 0 (Value.agg cs.toArray).cells.toList = cs := by
      rw [setL_eq _ _ _ (by simp [Value.cells, hlen, hZ])]
      simp [Value.cells, hlen, hZ]
    rw [hset]
    have hb6i : b6 ≠ it := fun q => by rw [q, upd_same] at hb6; cases hb6
    rw [upd_ne _ _ hb6i] at hb6
    have hb6c : b6 ≠ cm := fun q => by rw [q, hcm'] at hb6; cases hb6
    have hb6h : h b6 = none := by
      cases hq : h b6 with
      | none => rfl
      | some o => rw [hfr _ _ hb6c hq] at hb6; cases hb6
    have hcb' : ∃ cs E w, h cb = some (.cells cs E w) := by
      unfold cellAt at hcb
      split at hcb
      · exact ⟨_, _, _, by assumption⟩
      · cases hcb
    obtain ⟨ccs, cE, cw, hcb'⟩ := hcb'
    have hcbc : cb ≠ cm := fun q => by rw [q, hcm] at hcb'; cases hcb'
    have hcbi : cb ≠ it := fun q => by rw [q, hit] at hcb'; cases hcb'
    have hcb6 : cb ≠ b6 := fun q => by rw [q, hb6h] at hcb'; cases hcb'
    have hcb2 := hfr _ _ hcbc hcb'
    have hcell : ccs[co + 1]? = some (.map (some cm)) := by
      have := hcb
      unfold cellAt at this
      rw [hcb'] at this; exact this
    rw [nilp]
    simp only [field_addr]
    rw [load_cell (v := .map (some cm)) (by rw [cellAt_of (by rw [upd_ne _ _ hcb6, upd_ne _ _ hcb6, upd_ne _ _ hcbi]; exact hcb2)]; exact hcell)]
    have hnew : ∀ x ∈ ents β, keyEq e.1 x.1 = false := by
      intro x hx
      obtain ⟨p, hp, rfl⟩ := List.mem_map.1 hx
      have := hlf e he
      rw [hany] at this
      have h0 : (β.any fun p => keyEq e.1 p.1) = false := by simpa using this.symm
      rw [List.any_eq_false] at h0
      simpa using h0 p hp
    unfold o_mapUpdate
    have hcm3 : ∀ q q', AM.upd (AM.upd (AM.upd h' it q) b6 q') b6 (.cells cs E .exact) cm = some (.map (.int .u32) (ents β) β.length) := fun q q' => by
      rw [upd_ne _ _ hb6c.symm, upd_ne _ _ hb6c.symm, upd_ne _ _ hitc.symm]; exact hcm'
    refine ⟨hkk e he, rfl, ?_⟩
    simp only [hcm3]
    refine ⟨trivial, ?_⟩
    obtain ⟨m1, m2⟩ := mset_out (v := .pointer (some ⟨b6, 0, none⟩)) hnew
    rw [m1, m2]
    refine ⟨_, filter_less hany, left.filter (fun k => !keyEq e.1 k), β ++ [(e.1, b6)], trivial, rfl, ?_⟩
    have hfr' : ∀ c o, c ≠ cm → c ≠ it → c ≠ b6 → h' c = some o → ∀ q q' q3, AM.upd (AM.upd (AM.upd (AM.upd h' it q) b6 q') b6 (.cells cs E .exact)) cm q3 c = some o := by
      intro c o h1 h2 h3 h4 q q' q3
      rw [upd_ne _ _ h1, upd_ne _ _ h3, upd_ne _ _ h3, upd_ne _ _ h2]; exact h4
    refine ⟨⟨some e.1, ?_⟩, ?_, ?_, ?_, ?_, ?_, ?_⟩
    · rw [upd_ne _ _ hitc, upd_ne _ _ hb6i.symm, upd_ne _ _ hb6i.symm, upd_same]
    · rw [upd_same]
      simp [ents]
    · intro c o hc hco
      refine hfr' _ _ hc ?_ ?_ (hfr _ _ hc hco) _ _ _
      · rintro rfl; rw [hit] at hco; cases hco
      · rintro rfl; rw [hb6h] at hco; cases hco
    · intro p hp
      rcases List.mem_append.1 hp with hp | hp
      · obtain ⟨pb2, cs2, E2, w2, g1, g2, g3, g4, g5⟩ := hpgs p hp
        refine ⟨pb2, cs2, E2, w2, g1, g2, hfr' _ _ ?_ ?_ ?_ g3 _ _ _, g4, g5⟩
        · intro q; rw [q, hcm'] at g3; cases g3
        · intro q; rw [q, hit'] at g3; cases g3
        · intro q; rw [q, hb6] at g3; cases g3
      · obtain rfl := List.mem_singleton.1 hp
        refine ⟨pb, cs, E', w, by rw [← hpe]; exact he, hpb, ?_, hb6h, hb62⟩
        rw [upd_ne _ _ hb6c, upd_same]
    · rw [List.map_append, List.map_cons, List.map_nil, List.nodup_append]
      refine ⟨hnd, by simp, ?_⟩
      intro a ha b hb
      rw [List.mem_singleton.1 hb]
      rintro rfl
      obtain ⟨p, hp, rfl⟩ := List.mem_map.1 ha
      obtain ⟨_, _, _, _, _, _, g3, _, _⟩ := hpgs p hp
      rw [hb6] at g3; cases g3
    · intro e2 he2
      rw [any_false_filter (hkr e he), hlf e2 he2, List.any_append]
      simp
    · rw [show ents (β ++ [(e.1, b6)]) = ents β ++ [(e.1, .pointer (some ⟨b6, 0, none⟩))] by simp [ents]]
      exact dist_snoc hds fun x hx => keyEq_symm (hnew x hx)
  · show Ke0 (.pointer (some ⟨cb, co, none⟩)) h'
    refine hk β h' ⟨left, ⟨cur, hit'⟩, hcm', hfr, hpgs, hnd, hlf, hds⟩ fun e he => ?_
    have := hlf e he
    rw [hall e he] at this
    simpa using this.symm

/-! ### For the executor -/
def ptrX (x : XA) : Option (Nat × Nat) := match x with | .c (.pointer (some ⟨b, o, none⟩)) => some (b, o) | _ => none
def cellX (eh : EH) (b o : Nat) : Option Value := match eh.get b with | some (.cells r _ _) => r.get o | _ => none
def pageOf (eh : EH) (x : XA) : Option R :=
  match x with
  | .c (.pointer (some ⟨pb, 0, none⟩)) => (match eh.get pb with | some (.cells r _ _) => bc (Nat.beq r.size 257) (some r) none | _ => none)
  | _ => none
def copyTo (E : TypeId) (src : EH) : List (Value × XA) → Nat → EH → Option (List (Value × XA) × EH × Nat)
  | [], n, eh => some ([], eh, n)
  | e :: es, n, eh => (match pageOf src e.2 with
    | some r => bc (kkHas (.int .u32) e.1) (match copyTo E src es (n + 1) (eh.set n (.cells r E .exact)) with
      | some (l, eh', n') => some ((e.1, .c (.pointer (some ⟨n, 0, none⟩))) :: l, eh', n')
      | none => none) none
    | none => none)
def s_copyPages (E : TypeId) (m c : XA) (eh : EH) (n : Nat) : Option (EH × Nat) :=
  match ptrX m, ptrX c with
  | some (mb, mo), some (cb, co) => (match cellX eh mb (mo + 1), cellX eh cb (co + 1) with
    | some (.map (some pm)), some (.map (some cm)) => (match eh.get pm, eh.get cm with
      | some (.map (.int .u32) es _), some (.map (.int .u32) [] 0) => bc (Nat.beq pm cm) none (match copyTo E eh es n (eh.set cm .dead) with
        | some (l, eh', n') => some (eh'.set cm (.map (.int .u32) l es.length), n')
        | none => none)
      | _, _ => none)
    | _, _ => none)
  | _, _ => none
section
variable {F : H} {ρ : Ren} {n : Nat} {eh : EH} {h : H}
theorem cellX_of {b b' o : Nat} {t : LObj} {v : Value} (hs : XSim F ρ n eh h) (hb : ρ b = some (b', t)) (he : cellX eh b o = some v) : ∃ v', AM.cellAt h b' o = some v' ∧ RC ρ v v' := by
  unfold cellX at he
  split at he
  · rename_i r E w hg
    obtain ⟨cs, h1, h2⟩ := hs.cells hg hb
    rw [R.get_eq] at he
    obtain ⟨v', h3, h4⟩ := h2.get he
    exact ⟨v', by rw [cellAt_of h1]; exact h3, h4⟩
  · cases he
theorem addPages {E : TypeId} {src : EH} {h' : H} {blk : Value → Nat} : ∀ {es : List (Value × XA)} {n : Nat} {eh1 : EH} {ρ1 : Ren} {l : List (Value × XA)} {eh2 : EH} {n2 : Nat}, copyTo E src es n eh1 = some (l, eh2, n2) → XSim F ρ1 n eh1 h' → ρ.le ρ1 →
    (∀ e ∈ es, ∀ r, pageOf src e.2 = some r → ∃ cs, h' (blk e.1) = some (.cells cs E .exact) ∧ All2 (RC ρ) r.toL cs) → (∀ e ∈ es, 2 ≤ blk e.1 ∧ F (blk e.1) = none) →
    (∀ e ∈ es, ∀ c p t, eh1.get c = some p → isDead p = false → ρ1 c = some (blk e.1, t) → False) → es.Pairwise (fun a b => blk a.1 ≠ blk b.1) →
    ∃ ρ2, ρ1.le ρ2 ∧ XSim F ρ2 n2 eh2 h' ∧ All2 (fun e x => x.1 = e.1 ∧ kkHas (.int .u32) e.1 = true ∧ ∃ b t, x.2 = .c (.pointer (some ⟨b, 0, none⟩)) ∧ ρ2 b = some (blk e.1, t)) es l ∧
      ∀ c p t, eh2.get c = some p → isDead p = false → ∀ x, ρ2 c = some (x, t) → (eh1.get c = some p ∧ ρ1 c = some (x, t)) ∨ ∃ e ∈ es, x = blk e.1
  | [], n, eh1, ρ1, l, eh2, n2, he, hs, _, _, _, _, _ => by
    cases he
    refine ⟨ρ1, Ren.le_refl _, hs, .nil, fun c p t hc hd x hx => .inl ⟨hc, hx⟩⟩
  | e :: es, n, eh1, ρ1, l, eh2, n2, he, hs, hle, hp, h2, hfr, hpw => by
    simp only [copyTo] at he
    split at he
    rotate_left
    · cases he
    rename_i r hr
    cases hkk : kkHas (.int .u32) e.1
    · rw [hkk] at he; cases he
    rw [hkk, bc_true] at he
    split at he
    rotate_left
    · cases he
    rename_i l' eh' n' hrec
    cases he
    obtain ⟨cs, g1, g2⟩ := hp e (.head _) r hr
    obtain ⟨k1, k2⟩ := hs.name (h2 e (.head _)).1 undefT
    have hpw' := List.pairwise_cons.1 hpw
    have hn := hs.top n (Nat.le_refl n)
    have hlive : ∀ c p, eh1.get c = some p → isDead p = false → c ≠ n := by
      rintro c p hc hd rfl
      obtain ⟨b', t, o', e1, _⟩ := hs.obj _ _ hc hd
      rw [hn] at e1; cases e1
    have hput := k2.put (b := n) (τ := undefT) (o := .cells r E .exact) (by simp) g1 (.cells (g2.mono2 fun _ _ h => (h.mono hle).mono k1)) (h2 e (.head _)).2 fun c p t hc hg hd hρ => by
      simp only [if_neg hc] at hρ
      exact hfr e (.head _) c p t hg hd hρ
    obtain ⟨ρ2, q1, q2, q3, q4⟩ := addPages hrec hput (Ren.le_trans hle k1) (fun e' he' => hp e' (.tail _ he')) (fun e' he' => h2 e' (.tail _ he')) (fun e' he' c p t hc hd hρ => by
      rw [Tr.get_set] at hc
      by_cases hcn : c = n
      · subst hcn
        simp only [if_true, Option.some.injEq, Prod.mk.injEq] at hρ
        exact hpw'.1 e' he' hρ.1
      · rw [if_neg hcn] at hc
        simp only [if_neg hcn] at hρ
        exact hfr e' (.tail _ he') c p t hc hd hρ) hpw'.2
    refine ⟨ρ2, Ren.le_trans k1 q1, q2, .cons ⟨rfl, hkk, n, undefT, rfl, q1 _ _ (by simp)⟩ q3, fun c p t hc hd x hx => ?_⟩
    rcases q4 c p t hc hd x hx with ⟨r1, r2⟩ | ⟨e', he', r1⟩
    · rw [Tr.get_set] at r1
      by_cases hcn : c = n
      · subst hcn
        simp only [if_true, Option.some.injEq, Prod.mk.injEq] at r2
        exact .inr ⟨e, .head _, r2.1.symm⟩
      · rw [if_neg hcn] at r1
        simp only [if_neg hcn] at r2
        exact .inl ⟨r1, r2⟩
    · exact .inr ⟨e', .tail _ he', r1⟩
theorem nodup_snd {α : Type} {β : List (α × Nat)} (h : (β.map (·.2)).Nodup) : ∀ p ∈ β, ∀ q ∈ β, p.2 = q.2 → p = q := by
  induction β with
  | nil => intro p hp; cases hp
  | cons a l ih =>
    simp only [List.map_cons, List.nodup_cons] at h
    intro p hp q hq he
    rcases List.mem_cons.1 hp with rfl | hp' <;> rcases List.mem_cons.1 hq with rfl | hq'
    · rfl
    · exact absurd (List.mem_map.2 ⟨q, hq', he.symm⟩) h.1
    · exact absurd (List.mem_map.2 ⟨p, hp', he⟩) h.1
    · exact ih h.2 p hp' q hq' he
theorem dist_fst {l : List (Value × Value)} (hd : Dist l) {a b : Value × Value} (ha : a ∈ l) (hb : b ∈ l) (hk : keyEq a.1 a.1 = true) (he : a.1 = b.1) : a = b := by
  have h1 := mfind_mem hd ha hk
  have h2 := mfind_mem hd hb (k := a.1) (by rw [← he]; exact hk)
  rw [h1] at h2
  exact Prod.ext he (Option.some.inj h2)
theorem RM2.pw {es : List (Value × XA)} {l : List (Value × Value)} (hA : RM2 ρ es l) (hD : Dist l) : es.Pairwise (fun a b => keyEq a.1 b.1 = false) := by
  induction hA with
  | nil => exact .nil
  | cons h1 t ih =>
    have hD' := List.pairwise_cons.1 hD
    refine .cons (fun b hb => ?_) (ih hD'.2)
    obtain ⟨i, hi⟩ := List.mem_iff_getElem?.1 hb
    obtain ⟨b2, hi2, q1, _⟩ := t.get hi
    rw [← h1.1, ← q1]
    exact hD'.1 b2 (List.mem_of_getElem? hi2)
theorem RM.pw {es : List (Value × XA)} {es' : List (Value × Value)} (h : RM ρ es es') : es.Pairwise (fun a b => keyEq a.1 b.1 = false) := by
  obtain ⟨l0, hA, hP, hD⟩ := h
  exact hA.pw (hD.perm hP.symm)
theorem newEnts {ρ2 : Ren} {blk : Value → Nat} {es l : List (Value × XA)} (q3 : All2 (fun e x => x.1 = e.1 ∧ kkHas (.int .u32) e.1 = true ∧ ∃ b t, x.2 = .c (.pointer (some ⟨b, 0, none⟩)) ∧ ρ2 b = some (blk e.1, t)) es l) :
    All2 (fun e e' => e'.1 = e.1 ∧ RA ρ2 e.2 e'.2) l (es.map fun e => (e.1, Value.pointer (some ⟨blk e.1, 0, none⟩))) := by
  induction q3 with
  | nil => exact .nil
  | cons h1 t ih =>
    obtain ⟨g1, _, b, t', g2, g3⟩ := h1
    exact .cons ⟨g1.symm, by rw [g2]; exact .c (.s (.ptr g3))⟩ ih
theorem RM.dist {es : List (Value × XA)} {es' : List (Value × Value)} (h : RM ρ es es') : Dist es' := by
  obtain ⟨_, _, _, h⟩ := h
  exact h
theorem copyTo_all {E : TypeId} {src : EH} : ∀ {es : List (Value × XA)} {n : Nat} {eh : EH} {r : List (Value × XA) × EH × Nat}, copyTo E src es n eh = some r → ∀ e ∈ es, kkHas (.int .u32) e.1 = true ∧ ∃ r, pageOf src e.2 = some r
  | [], _, _, _, _, e, he => by cases he
  | x :: es, n, eh, r, h, e, he => by
    simp only [copyTo] at h
    split at h
    rotate_left
    · cases h
    rename_i q hq
    cases hkk : kkHas (.int .u32) x.1
    · rw [hkk] at h; cases h
    rw [hkk, bc_true] at h
    split at h
    · rename_i h'
      rcases List.mem_cons.1 he with rfl | he
      · exact ⟨hkk, q, hq⟩
      · exact copyTo_all h' e he
    · cases h
theorem ptrX_eq {x : XA} {b o : Nat} (h : ptrX x = some (b, o)) : x = .c (.pointer (some ⟨b, o, none⟩)) := by
  unfold ptrX at h
  split at h
  · cases h; rfl
  · cases h
theorem copyPages_ok {E : TypeId} {Z : List Value} (hZ : Z.length = 257) {m c : XA} {x0 x3 : Value} {eh' : EH} {n' : Nat} (hs : XSim F ρ n eh h) (hm : RA ρ m x0) (hc : RA ρ c x3) (he : s_copyPages E m c eh n = some (eh', n')) {Kr : Value → H → Prop}
    (hk : ∀ ρ' h', ρ.le ρ' → XSim F ρ' n' eh' h' → Kr x3 h') :
    o_nilCheck x0 fun v20 => o_fieldAddr 1 v20 fun v21 => o_load false 1 v21 h fun v22 => o_range v22 h fun v23 h => sloop (S := Value × Value) (fun s h K => copyBody E Z s.1 s.2 h (fun a b h => K (a, b) h) Kr) (x3, v23) h := by
  unfold s_copyPages at he
  split at he
  rotate_left
  · cases he
  rename_i mb mo cb co hpm hpc
  obtain rfl := ptrX_eq hpm
  obtain rfl := ptrX_eq hpc
  obtain ⟨mb', tm, hmb, rfl⟩ := hm.toC.ptr
  obtain ⟨cb', tc, hcb, rfl⟩ := hc.toC.ptr
  split at he
  rotate_left
  · cases he
  rename_i pm cm hcp hcc
  obtain ⟨v1, hv1, hr1⟩ := cellX_of hs hmb hcp
  obtain ⟨v2, hv2, hr2⟩ := cellX_of hs hcb hcc
  obtain ⟨pm', tp, hpmρ, rfl⟩ := hr1.mp
  obtain ⟨cm', tcm, hcmρ, rfl⟩ := hr2.mp
  split at he
  rotate_left
  · cases he
  rename_i es ck hgp hgc
  cases hbe : Nat.beq pm cm
  rotate_left
  · rw [hbe] at he; cases he
  rw [hbe, bc_false] at he
  have hne : pm ≠ cm := fun e => by rw [e, Nat.beq_refl] at hbe; cases hbe
  split at he
  rotate_left
  · cases he
  rename_i l eh2 n2 hct
  cases he
  obtain ⟨es', hp', hRM⟩ := hs.map hgp hpmρ
  obtain ⟨z', hc', hz⟩ := hs.map hgc hcmρ
  have hz' : z' = [] := by
    have := hz.length
    simpa using this.symm
  subst hz'
  have hall := copyTo_all hct
  have hkey : ∀ e' ∈ es', kkHas (.int .u32) e'.1 = true := fun e' he' => by
    obtain ⟨e, he, h1, _⟩ := hRM.mem he'
    rw [h1]; exact (hall e he).1
  have hpage : ∀ e ∈ es, ∀ r, pageOf eh e.2 = some r → ∀ e' ∈ es', e'.1 = e.1 → ∃ pb cs E' w, e'.2 = .pointer (some ⟨pb, 0, none⟩) ∧ h pb = some (.cells cs E' w) ∧ cs.length = 257 ∧ All2 (RC ρ) r.toL cs := by
    intro e he r hr e' he' hee
    obtain ⟨l0, hA, hP, hD⟩ := hRM
    obtain ⟨i, hi⟩ := List.mem_iff_getElem?.1 he
    obtain ⟨e2, hi2, h1, h2⟩ := hA.get hi
    have he2 := hP.mem_iff.1 (List.mem_of_getElem? hi2)
    have hke := (keyEq_iff (hkey e2 he2) (hkey e2 he2)).2 rfl
    obtain rfl : e2 = e' := dist_fst hD he2 he' hke (h1.trans hee.symm)
    unfold pageOf at hr
    split at hr
    rotate_left
    · cases hr
    rename_i pb hx
    split at hr
    rotate_left
    · cases hr
    rename_i r0 E0 w0 hg0
    cases hsz : Nat.beq r0.size 257
    · rw [hsz] at hr; cases hr
    rw [hsz] at hr; cases hr
    have hsz := Nat.eq_of_beq_eq_true hsz
    rw [hx] at h2
    obtain ⟨pb', tpb, hpb, hq⟩ := h2.toC.ptr
    obtain ⟨cs, g1, g2⟩ := hs.cells hg0 hpb
    exact ⟨pb', cs, _, _, hq, g1, by rw [← g2.length, ← R.size_eq]; exact hsz, g2⟩
  show o_load false 1 (.pointer (some ⟨mb', mo + 1, none⟩)) h _
  rw [load_cell hv1]
  unfold o_range
  simp only [hp']
  intro it hit2 hit
  have hpc' : pm' ≠ cm' := by
    rintro rfl
    exact hne (hs.inj _ _ _ _ _ _ _ hgp rfl hgc rfl hpmρ hcmρ)
  refine copy_loop hZ hRM.dist hkey hp' hpc' hc' hv2 (fun e' he' => ?_) hit rfl fun β h' hI hcov => ?_
  · obtain ⟨e, he, h1, _⟩ := hRM.mem he'
    obtain ⟨_, r, hr⟩ := hall e he
    obtain ⟨pb, cs, E', w, g1, g2, g3, _⟩ := hpage e he r hr e' he' h1
    exact ⟨pb, cs, E', w, g1, g2, g3⟩
  obtain ⟨left, hI⟩ := hI
  obtain ⟨_, hcm', hfr, hpgs, hnd, _, hds⟩ := hI
  let blk : Value → Nat := fun k => match β.find? (fun p => keyEq k p.1) with | some p => p.2 | none => 0
  have hblk' : ∀ k, β.any (fun p => keyEq k p.1) = true → (k, blk k) ∈ β := by
    intro k hk
    obtain ⟨p, hp, hkp⟩ := List.any_eq_true.1 hk
    simp only [blk]
    cases hf : β.find? (fun p => keyEq k p.1) with
    | none =>
      have := List.find?_eq_none.1 hf p hp
      exact absurd hkp this
    | some q =>
      have h1 := List.mem_of_find?_eq_some hf
      have h2 := List.find?_some hf
      have h3 := keyEq_eq h2
      show (k, q.2) ∈ β
      rw [h3]; exact h1
  have hblk : ∀ e ∈ es, (e.1, blk e.1) ∈ β := fun e he => by
    obtain ⟨e', he', h1, _⟩ := hRM.mem' he
    rw [← h1]; exact hblk' _ (hcov e' he')
  have hfrF : ∀ c o, F c = some o → h' c = some o := fun c o hc => hfr c o (fun e => by rw [e, hs.fsep _ _ _ _ hgc rfl hcmρ] at hc; cases hc) (hs.fr c o hc)
  have hs1 : XSim F ρ n (eh.set cm .dead) h' := by
    refine ⟨hs.z0, hs.z1, hs.two, hs.top, hs.n2, ?_, ?_, hfrF, ?_⟩
    · intro b o hb hd
      rw [Tr.get_set] at hb
      by_cases e : b = cm
      · rw [if_pos e] at hb; cases hb; cases hd
      · rw [if_neg e] at hb
        obtain ⟨b', τ, o', h1, h2, h3⟩ := hs.obj b o hb hd
        refine ⟨b', τ, o', h1, hfr _ _ ?_ h2, h3⟩
        rintro rfl
        exact e (hs.inj _ _ _ _ _ _ _ hb hd hgc rfl h1 hcmρ)
    · intro b d o o' x t t' hb hbd hc hcd hx hx'
      rw [Tr.get_set] at hb hc
      by_cases e : b = cm
      · rw [if_pos e] at hb; cases hb; cases hbd
      · by_cases e' : d = cm
        · rw [if_pos e'] at hc; cases hc; cases hcd
        · rw [if_neg e] at hb
          rw [if_neg e'] at hc
          exact hs.inj _ _ _ _ _ _ _ hb hbd hc hcd hx hx'
    · intro b o x t hb hd hx
      rw [Tr.get_set] at hb
      by_cases e : b = cm
      · rw [if_pos e] at hb; cases hb; cases hd
      · rw [if_neg e] at hb; exact hs.fsep _ _ _ _ hb hd hx
  have hold : ∀ e ∈ es, h (blk e.1) = none ∧ 2 ≤ blk e.1 ∧ ∃ pb cs E' w, (e.1, Value.pointer (some ⟨pb, 0, none⟩)) ∈ es' ∧ h pb = some (.cells cs E' w) ∧ h' (blk e.1) = some (.cells cs E .exact) := fun e he => by
    obtain ⟨pb, cs, E', w, g1, g2, g3, g4, g5⟩ := hpgs _ (hblk e he)
    exact ⟨g4, g5, pb, cs, E', w, g1, g2, g3⟩
  have hkrefl : ∀ e ∈ es, keyEq e.1 e.1 = true := fun e he => (keyEq_iff (hall e he).1 (hall e he).1).2 rfl
  have hpw : es.Pairwise (fun a b => keyEq a.1 b.1 = false) := by
    exact hRM.pw
  obtain ⟨ρ2, q1, q2, q3, q4⟩ := addPages (blk := blk) hct hs1 (Ren.le_refl ρ) (fun e he r hr => by
      obtain ⟨_, _, pb, cs, E', w, g1, g2, g3⟩ := hold e he
      obtain ⟨pb2, cs2, E2, w2, k1, k2, k3, k4⟩ := hpage e he r hr _ g1 rfl
      cases k1
      rw [g2] at k2; cases k2
      exact ⟨cs, g3, k4⟩)
    (fun e he => by
      obtain ⟨g1, g2, _⟩ := hold e he
      refine ⟨g2, ?_⟩
      cases hF : F (blk e.1) with
      | none => rfl
      | some o => rw [hs.fr _ _ hF] at g1; cases g1)
    (fun e he b o t hb hd hρ => by
      rw [Tr.get_set] at hb
      by_cases e' : b = cm
      · rw [if_pos e'] at hb; cases hb; cases hd
      · rw [if_neg e'] at hb
        obtain ⟨b', τ, o', h1, h2, h3⟩ := hs.obj b o hb hd
        rw [hρ] at h1; cases h1
        rw [(hold e he).1] at h2; cases h2)
    (by
      refine List.Pairwise.imp_of_mem (fun {a b} ha hb hab he => ?_) hpw
      have := nodup_snd hnd _ (hblk a ha) _ (hblk b hb) he
      have h1 := congrArg Prod.fst this
      simp only at h1
      rw [h1, hkrefl b hb] at hab; cases hab)
  refine hk ρ2 h' q1 (q2.put (q1 _ _ hcmρ) hcm' ?_ (hs.fsep _ _ _ _ hgc rfl hcmρ) ?_)
  · -- the new map
    have hA2 : All2 (fun e e' => e'.1 = e.1 ∧ RA ρ2 e.2 e'.2) l (es.map fun e => (e.1, Value.pointer (some ⟨blk e.1, 0, none⟩))) := by
      exact newEnts q3
    have hperm : (es.map fun e => (e.1, Value.pointer (some ⟨blk e.1, 0, none⟩))).Perm (ents β) := by
      refine (List.perm_ext_iff_of_nodup ?_ ?_).2 fun a => ?_
      · rw [List.Nodup, List.pairwise_map]
        refine List.Pairwise.imp_of_mem (fun {a b} ha hb hab he => ?_) hpw
        have h1 := congrArg Prod.fst he
        simp only at h1
        rw [h1, hkrefl b hb] at hab; cases hab
      · rw [ents, List.Nodup, List.pairwise_map]
        have hds' := hds
        rw [ents, Dist, List.pairwise_map] at hds'
        refine List.Pairwise.imp_of_mem (fun {a b} ha hb hab he => ?_) hds'
        have h1 := congrArg Prod.fst he
        simp only at h1 hab
        obtain ⟨pb, cs, E', w, g1, _⟩ := hpgs b hb
        have := (keyEq_iff (hkey _ g1) (hkey _ g1)).2 rfl
        rw [h1, this] at hab; cases hab
      · constructor
        · intro ha
          obtain ⟨e, he, rfl⟩ := List.mem_map.1 ha
          exact List.mem_map.2 ⟨_, hblk e he, rfl⟩
        · intro ha
          obtain ⟨p, hp, rfl⟩ := List.mem_map.1 ha
          obtain ⟨pb, cs, E', w, g1, _⟩ := hpgs p hp
          obtain ⟨e, he, g2, _⟩ := hRM.mem g1
          simp only at g2
          refine List.mem_map.2 ⟨e, he, ?_⟩
          have h2 := hblk e he
          rw [← g2] at h2
          have hke := (keyEq_iff (hkey _ g1) (hkey _ g1)).2 rfl
          have := dist_fst hds (a := (p.1, Value.pointer (some ⟨p.2, 0, none⟩))) (b := (p.1, Value.pointer (some ⟨blk p.1, 0, none⟩))) (List.mem_map.2 ⟨p, hp, rfl⟩) (List.mem_map.2 ⟨_, h2, rfl⟩) hke rfl
          rw [← g2]; exact this.symm
    have hlen : β.length = es.length := by
      have := hperm.length_eq
      simpa [ents] using this.symm
    rw [hlen]
    exact .map hA2 hperm hds
  · intro b o t hbc hb hd hρ
    rcases q4 b o t hb hd cm' hρ with ⟨r1, r2⟩ | ⟨e, he, r1⟩
    · rw [Tr.get_set, if_neg hbc] at r1
      exact hbc (hs.inj _ _ _ _ _ _ _ r1 hd hgc rfl r2 hcmρ)
    · have := (hold e he).1
      rw [← r1, hc'] at this; cases this
end
end
end Go.Proofs.YtbmfblmebhobiaaGreat.AM

