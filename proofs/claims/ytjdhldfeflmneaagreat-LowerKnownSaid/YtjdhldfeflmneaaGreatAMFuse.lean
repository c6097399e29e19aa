/-
  Guarded operations, put together: what '&&' and '||' guard in one piece; 'fwp' is 'awp' with the regions so read.
-/
import Derived.Test.YtjdhldfeflmneaaGreatAMDraw
set_option linter.unusedSimpArgs false
set_option linter.unusedVariables false
namespace Go.Proofs.YtjdhldfeflmneaaGreat.AM

def o_guardS {α : Type} (u : α) (c : Value) (want : Bool) (op : (α → H → Prop) → Prop) (K : α → H → Prop) (h : H) : Prop :=
  match c with
  | .bool b => bif (b == want) then op K else K u h
  | _ => K u h
inductive FT where
  | nil
  | op (i : Nat) (r : FT)
  | grp (g : Nat) (w : Bool) (s r : FT)

def FT.flat : FT → List Nat
  | .nil => []
  | .op i r => i :: r.flat
  | .grp _ _ s r => s.flat ++ r.flat

def dstAt (ops : Array Oper) (i : Nat) : Option Tmp := (ops[i]?).bind (·.dst)
def undefs (ops : Array Oper) : List Nat → T → T
  | [], t => t
  | i :: r, t => undefs ops r (match ops[i]? with | some o => tput t o.dst undef | none => t)
def fsem (P : Program) (ops : Array Oper) : FT → (T → H → Prop) → T → H → Prop
  | .nil, K, t, h => K t h
  | .op i r, K, t, h => match ops[i]? with
    | some o => aop P o.op (aev t) h fun v h => fsem P ops r K (tput t o.dst v) h
    | none => False
  | .grp g w s r, K, t, h => match guardVal ops g t with
    | .bool b => bif b == w then fsem P ops s (fsem P ops r K) t h else fsem P ops r K (undefs ops s.flat t) h
    | _ => fsem P ops r K (undefs ops s.flat t) h

abbrev Acts := List (Nat × Bool)
def fok (ops : Array Oper) : Acts → List Nat → FT → Bool
  | _, _, .nil => true
  | acts, seen, .op i r => (match ops[i]? with
    | some o => (match acts, o.guard with
        | [], none => true
        | (g, w) :: _, some (g', w') => Nat.beq g g' && w == w'
        | _, _ => false) && acts.all (fun a => match o.dst with | none => true | some d => match dstAt ops a.1 with | none => true | some e => !Nat.beq d e)
    | none => false) && fok ops acts (i :: seen) r
  | acts, seen, .grp g w s r => (match acts with | [] => true | _ :: _ => seen.any (Nat.beq g)) && fok ops ((g, w) :: acts) [] s && fok ops acts (s.flat ++ seen) r

def wantedA (ops : Array Oper) (t : T) (a : Nat × Bool) : Prop := guardVal ops a.1 t = .bool a.2
def idleA (ops : Array Oper) (t : T) (a : Nat × Bool) : Prop := ∀ b, guardVal ops a.1 t = .bool b → (b == a.2) = false

section
variable {P : Program} {ops : Array Oper}
theorem aOps_append {K : T → H → Prop} : ∀ (a b : List Nat) (t : T) (h : H), aOps P ops (a ++ b) K t h = aOps P ops a (aOps P ops b K) t h
  | [], _, _, _ => rfl
  | i :: a, b, t, h => by
    show aStep P ops i (aOps P ops (a ++ b) K) t h = aStep P ops i (aOps P ops a (aOps P ops b K)) t h
    congr 1
    funext t h
    exact aOps_append a b t h

theorem guardVal_tput {j : Nat} {t : T} {d : Option Tmp} {v : Value} (hd : ∀ x, d = some x → dstAt ops j ≠ some x) : guardVal ops j (tput t d v) = guardVal ops j t := by
  unfold guardVal
  unfold dstAt at hd
  cases hj : (ops[j]?).bind (·.dst) with
  | none => rfl
  | some e => exact tput_ne fun he => hd e he hj
theorem guardVal_undef {j : Nat} {t : T} {d : Option Tmp} : guardVal ops j (tput t d undef) = undef ∨ guardVal ops j (tput t d undef) = guardVal ops j t := by
  unfold guardVal
  cases hj : (ops[j]?).bind (·.dst) with
  | none => exact .inl rfl
  | some e =>
    by_cases he : d = some e
    · subst he; exact .inl (by simp [tput, tset])
    · exact .inr (tput_ne he)
theorem idle_tput {t : T} {d : Option Tmp} {a : Nat × Bool} (hi : idleA ops t a) : idleA ops (tput t d undef) a := by
  intro b hb
  rcases guardVal_undef (ops := ops) (j := a.1) (t := t) (d := d) with h | h
  · rw [h] at hb; simp [undef] at hb
  · rw [h] at hb; exact hi b hb
theorem undefs_append : ∀ (a b : List Nat) (t : T), undefs ops (a ++ b) t = undefs ops b (undefs ops a t)
  | [], _, _ => rfl
  | _ :: a, b, _ => undefs_append a b _
theorem guardVal_undefs {j : Nat} : ∀ (l : List Nat) (t : T), guardVal ops j (undefs ops l t) = undef ∨ guardVal ops j (undefs ops l t) = guardVal ops j t
  | [], _ => .inr rfl
  | i :: l, t => by
    unfold undefs
    cases ho : ops[i]? with
    | none => exact guardVal_undefs l t
    | some o =>
      rcases guardVal_undefs (j := j) l (tput t o.dst undef) with h | h
      · exact .inl h
      · rcases guardVal_undef (ops := ops) (j := j) (t := t) (d := o.dst) with h2 | h2
        · exact .inl (by simp only [h, h2])
        · exact .inr (by simp only [h, h2])
theorem guardVal_set {j : Nat} {t : T} {o : Oper} (ho : ops[j]? = some o) : guardVal ops j (tput t o.dst undef) = undef := by
  unfold guardVal
  simp only [ho, Option.bind_some]
  cases hd : o.dst with
  | none => rfl
  | some d => simp [tput, tset]
theorem guardVal_undefs_mem {j : Nat} : ∀ (l : List Nat) (t : T), j ∈ l → guardVal ops j (undefs ops l t) = undef
  | [], _, h => by cases h
  | i :: l, t, hm => by
    unfold undefs
    by_cases hl : j ∈ l
    · exact guardVal_undefs_mem l _ hl
    · have hji : j = i := (List.mem_cons.1 hm).resolve_right hl
      subst hji
      cases ho : ops[j]? with
      | none =>
        have : ∀ t, guardVal ops j t = undef := fun t => by simp [guardVal, ho]
        exact this _
      | some o =>
        rcases guardVal_undefs (ops := ops) (j := j) l (tput t o.dst undef) with h | h
        · exact h
        · simp only [h]; exact guardVal_set ho

/-- What is guarded against is left out. -/
theorem skip_ok {K : T → H → Prop} : ∀ (s : FT) (a : Nat × Bool) (acts : Acts) (seen : List Nat) {t : T} {h : H}, fok ops (a :: acts) seen s = true → idleA ops t a → (∀ j ∈ seen, guardVal ops j t = undef) →
    K (undefs ops s.flat t) h → aOps P ops s.flat K t h := by
  intro s
  induction s generalizing K with
  | nil => intro a acts seen t h _ _ _ hk; exact hk
  | op i r ih =>
    intro a acts seen t h hf hi hs hk
    simp only [fok, Bool.and_eq_true] at hf
    cases ho : ops[i]? with
    | none => rw [ho] at hf; cases hf.1
    | some o =>
      rw [ho] at hf
      simp only [Bool.and_eq_true] at hf
      obtain ⟨⟨h1, _⟩, h3⟩ := hf
      show aStep P ops i (aOps P ops r.flat K) t h
      unfold aStep
      simp only [ho]
      cases hg : o.guard with
      | none => rw [hg] at h1; cases h1
      | some g =>
        obtain ⟨g, w⟩ := g
        rw [hg] at h1
        obtain ⟨ag, aw⟩ := a
        simp only [Bool.and_eq_true, beq_iff_eq] at h1
        have e1 := Nat.eq_of_beq_eq_true h1.1
        have e2 := h1.2
        subst e1; subst e2
        have hk2 : aOps P ops r.flat K (tput t o.dst undef) h := by
          refine ih (ag, aw) acts (i :: seen) h3 (idle_tput hi) ?_ ?_
          · intro j hj
            rcases List.mem_cons.1 hj with rfl | hj
            · exact guardVal_set ho
            · rcases guardVal_undef (ops := ops) (j := j) (t := t) (d := o.dst) with h | h
              · exact h
              · rw [h]; exact hs j hj
          · have : undefs ops (FT.op i r).flat t = undefs ops r.flat (tput t o.dst undef) := by
              show undefs ops (i :: r.flat) t = _
              simp [undefs, ho]
            rw [this] at hk; exact hk
        show o_guard (guardVal ops ag t) aw _ (fun v h => aOps P ops r.flat K (tput t o.dst v) h) h
        unfold o_guard
        split
        · rename_i b hb
          rw [hi b hb, cond_false]; exact hk2
        · exact hk2
  | grp g w s r ihs ihr =>
    intro a acts seen t h hf hi hs hk
    simp only [fok, Bool.and_eq_true] at hf
    obtain ⟨⟨h1, h2⟩, h3⟩ := hf
    show aOps P ops (s.flat ++ r.flat) K t h
    rw [aOps_append]
    have hgm : g ∈ seen := by
      obtain ⟨x, hx, he⟩ := List.any_eq_true.1 h1
      rw [Nat.eq_of_beq_eq_true he]; exact hx
    refine ihs (g, w) (a :: acts) [] h2 ?_ (fun _ hj => absurd hj (by simp)) ?_
    · intro b hb
      rw [hs g hgm] at hb; simp [undef] at hb
    · refine ihr a acts (s.flat ++ seen) h3 ?_ ?_ ?_
      · intro b hb
        rcases guardVal_undefs (ops := ops) (j := a.1) s.flat t with h | h
        · rw [h] at hb; simp [undef] at hb
        · rw [h] at hb; exact hi b hb
      · intro j hj
        rcases List.mem_append.1 hj with hj | hj
        · exact guardVal_undefs_mem _ _ hj
        · rcases guardVal_undefs (ops := ops) (j := j) s.flat t with h | h
          · exact h
          · rw [h]; exact hs j hj
      · rw [← undefs_append]; exact hk

theorem flat_dst {a : Nat × Bool} : ∀ (s : FT) (acts : Acts) (seen : List Nat), fok ops acts seen s = true → a ∈ acts → ∀ i ∈ s.flat, ∀ o, ops[i]? = some o → ∀ d, o.dst = some d → dstAt ops a.1 ≠ some d := by
  intro s
  induction s with
  | nil => intro acts seen _ _ i hi; cases hi
  | op j r ih =>
    intro acts seen hf ha i hi o ho d hd
    simp only [fok, Bool.and_eq_true] at hf
    rcases List.mem_cons.1 hi with rfl | hi
    · rw [ho] at hf
      simp only [Bool.and_eq_true] at hf
      have := List.all_eq_true.1 hf.1.2 a ha
      rw [hd] at this
      intro he
      rw [he] at this
      simp at this
    · exact ih acts _ hf.2 ha i hi o ho d hd
  | grp g w s r ihs ihr =>
    intro acts seen hf ha i hi o ho d hd
    simp only [fok, Bool.and_eq_true] at hf
    rcases List.mem_append.1 hi with hi | hi
    · exact ihs _ _ hf.1.2 (List.mem_cons_of_mem _ ha) i hi o ho d hd
    · exact ihr _ _ hf.2 ha i hi o ho d hd
theorem wanted_undefs {a : Nat × Bool} : ∀ (l : List Nat) {t : T}, (∀ i ∈ l, ∀ o, ops[i]? = some o → ∀ d, o.dst = some d → dstAt ops a.1 ≠ some d) → wantedA ops t a → wantedA ops (undefs ops l t) a
  | [], _, _, hw => hw
  | i :: l, t, hd, hw => by
    unfold undefs
    refine wanted_undefs l (fun j hj => hd j (List.mem_cons_of_mem _ hj)) ?_
    cases ho : ops[i]? with
    | none => exact hw
    | some o =>
      show guardVal ops a.1 (tput t o.dst undef) = _
      rw [guardVal_tput fun x hx => hd i (List.mem_cons_self ..) o ho x hx]; exact hw

theorem fsem_ok : ∀ (s : FT) (acts : Acts) (seen : List Nat) {K1 K2 : T → H → Prop} {t : T} {h : H}, fok ops acts seen s = true → (∀ a ∈ acts, wantedA ops t a) →
    (∀ t h, (∀ a ∈ acts, wantedA ops t a) → K1 t h → K2 t h) → fsem P ops s K1 t h → aOps P ops s.flat K2 t h := by
  intro s
  induction s with
  | nil => intro acts seen K1 K2 t h _ hw hk hs; exact hk _ _ hw hs
  | op i r ih =>
    intro acts seen K1 K2 t h hf hw hk hs
    have hf' := hf
    simp only [fok, Bool.and_eq_true] at hf
    unfold fsem at hs
    cases ho : ops[i]? with
    | none => rw [ho] at hs; exact absurd hs id
    | some o =>
      rw [ho] at hs hf
      simp only [Bool.and_eq_true] at hf hs
      obtain ⟨⟨h1, h2⟩, h3⟩ := hf
      show aStep P ops i (aOps P ops r.flat K2) t h
      have hop : aop P o.op (aev t) h fun v h => aOps P ops r.flat K2 (tput t o.dst v) h := by
        refine aop_mono (fun v h hh => ih acts (i :: seen) h3 (fun a ha => ?_) hk hh) hs
        show guardVal ops a.1 (tput t o.dst v) = _
        rw [guardVal_tput fun x hx => flat_dst (.op i r) acts seen hf' ha i (List.mem_cons_self ..) o ho x hx]
        exact hw a ha
      unfold aStep
      simp only [ho]
      cases hg : o.guard with
      | none => exact hop
      | some g =>
        obtain ⟨g, w⟩ := g
        cases acts with
        | nil => rw [hg] at h1; cases h1
        | cons a acts =>
          obtain ⟨ag, aw⟩ := a
          rw [hg] at h1
          simp only [Bool.and_eq_true, beq_iff_eq] at h1
          have e1 := Nat.eq_of_beq_eq_true h1.1
          have e2 := h1.2
          subst e1; subst e2
          have hwa := hw (ag, aw) (List.mem_cons_self ..)
          unfold wantedA at hwa
          simp only at hwa ⊢
          show o_guard (guardVal ops ag t) aw _ (fun v h => aOps P ops r.flat K2 (tput t o.dst v) h) h
          unfold o_guard
          rw [hwa]
          simp only [beq_self_eq_true, cond_true]
          exact hop
  | grp g w s r ihs ihr =>
    intro acts seen K1 K2 t h hf hw hk hs
    simp only [fok, Bool.and_eq_true] at hf
    obtain ⟨⟨h1, h2⟩, h3⟩ := hf
    show aOps P ops (s.flat ++ r.flat) K2 t h
    rw [aOps_append]
    unfold fsem at hs
    have helse : idleA ops t (g, w) → fsem P ops r K1 (undefs ops s.flat t) h → aOps P ops s.flat (aOps P ops r.flat K2) t h := by
      intro hi hs
      have hr : aOps P ops r.flat K2 (undefs ops s.flat t) h := ihr acts _ h3 (fun a ha => wanted_undefs _ (flat_dst s _ _ h2 (List.mem_cons_of_mem _ ha)) (hw a ha)) hk hs
      exact skip_ok s (g, w) acts [] h2 hi (fun _ hj => absurd hj (by simp)) hr
    split at hs
    · rename_i b hb
      cases hbw : (b == w) with
      | true =>
        rw [hbw, cond_true] at hs
        refine ihs ((g, w) :: acts) [] h2 ?_ ?_ hs
        · intro a ha
          rcases List.mem_cons.1 ha with rfl | ha
          · unfold wantedA; rw [hb, eq_of_beq hbw]
          · exact hw a ha
        · intro t h hw' hh
          exact ihr acts _ h3 (fun a ha => hw' a (List.mem_cons_of_mem _ ha)) hk hh
      | false =>
        rw [hbw, cond_false] at hs
        exact helse (fun b' hb' => by rw [hb] at hb'; cases hb'; exact hbw) hs
    · rename_i hnb
      exact helse (fun b' hb' => absurd hb' (hnb b')) hs

def runLen (ops : Array Oper) (g : Nat) (w : Bool) : List Nat → List Nat → Nat
  | _, [] => 0
  | seen, j :: r => match (ops[j]?).bind (·.guard) with
    | none => 0
    | some (g', w') => bif (Nat.beq g g' && (w == w')) || seen.any (Nat.beq g') then runLen ops g w (j :: seen) r + 1 else 0
def mkF (ops : Array Oper) : Nat → Option (Nat × Bool) → List Nat → FT
  | 0, _, _ => .nil
  | _, _, [] => .nil
  | n + 1, act, i :: r => match (ops[i]?).bind (·.guard) with
    | none => .op i (mkF ops n act r)
    | some (g, w) => bif (match act with | some (g', w') => Nat.beq g g' && (w == w') | none => false) then .op i (mkF ops n act r)
      else .grp g w (mkF ops n (some (g, w)) ((i :: r).take (runLen ops g w [] (i :: r)))) (mkF ops n act ((i :: r).drop (runLen ops g w [] (i :: r))))
def planOf (ops : Array Oper) : FT := mkF ops (2 * ops.size + 2) none (List.range ops.size)
def eqL : List Nat → List Nat → Bool
  | [], [] => true
  | a :: l, b :: m => Nat.beq a b && eqL l m
  | _, _ => false
theorem eqL_eq : ∀ {l m : List Nat}, eqL l m = true → l = m
  | [], [], _ => rfl
  | a :: l, b :: m, h => by
    simp only [eqL, Bool.and_eq_true] at h
    rw [Nat.eq_of_beq_eq_true h.1, eqL_eq h.2]
  | [], _ :: _, h => by cases h
  | _ :: _, [], h => by cases h
/-- A region in the order of its text, what is guarded put together. -/
def fReg (P : Program) (ops : Array Oper) (K : T → H → Prop) (t : T) (h : H) : Prop :=
  bif fok ops [] [] (planOf ops) && eqL (planOf ops).flat (List.range ops.size) then fsem P ops (planOf ops) K t h else aOps P ops (List.range ops.size) K t h
theorem fReg_ok {K : T → H → Prop} {t : T} {h : H} (hr : fReg P ops K t h) : aOps P ops (List.range ops.size) K t h := by
  unfold fReg at hr
  cases hq : (fok ops [] [] (planOf ops) && eqL (planOf ops).flat (List.range ops.size)) with
  | false => rw [hq, cond_false] at hr; exact hr
  | true =>
    rw [hq, cond_true] at hr
    simp only [Bool.and_eq_true] at hq
    rw [← eqL_eq hq.2]
    exact fsem_ok _ [] [] hq.1 (fun _ ha => absurd ha (by simp)) (fun _ _ _ h => h) hr
end

def fwp (P : Program) (N : Nat) : Code → (Exit → T → H → Prop) → T → H → Prop
  | .skip, Q, t, h => Q .normal t h
  | .region id ops draw, Q, t, h => bif draw then awp P N (.region id ops draw) Q t h else fReg P ops (Q .normal) t h
  | .seq a b, Q, t, h => fwp P N a (athen (fwp P N b Q) Q) t h
  | .cond c x y, Q, t, h => o_if (aev t c) (fwp P N x Q t h) (fwp P N y Q t h)
  | .block id c, Q, t, h => fwp P N c (ablock id Q) t h
  | .loop c, Q, t, h => sloop (fun t h K => fwp P N c (athen K Q) t h) t h
  | .exit id, Q, t, h => Q (.exit id) t h
  | .ret, Q, t, h => Q .ret t h
  | .label _, Q, t, h => Q .normal t h
  | .rangeFunc g ps assign body, Q, t, h => awp P N (.rangeFunc g ps assign body) Q t h
  | _, _, _, _ => False
theorem fwp_ok {P : Program} {N : Nat} : ∀ (c : Code) {Q : Exit → T → H → Prop} {t : T} {h : H}, fwp P N c Q t h → awp P N c Q t h := by
  intro c
  induction c with
  | skip => intro Q t h ho; exact ho
  | label l => intro Q t h ho; exact ho
  | exit id => intro Q t h ho; exact ho
  | ret => intro Q t h ho; exact ho
  | goto l => intro Q t h ho; exact ho
  | refuse s => intro Q t h ho; exact ho
  | scope c ih => intro Q t h ho; exact ho
  | region id ops draw =>
    intro Q t h ho
    cases draw with
    | false => exact fReg_ok ho
    | true => exact ho
  | seq a b iha ihb =>
    intro Q t h ho
    exact awp_mono a (athen_mono (fun t h hh => ihb hh) fun _ _ _ h => h) (iha ho)
  | cond c x y ihx ihy =>
    intro Q t h ho
    show o_if (aev t c) (awp P N x Q t h) (awp P N y Q t h)
    have ho' : o_if (aev t c) (fwp P N x Q t h) (fwp P N y Q t h) := ho
    unfold o_if at *
    revert ho'
    split
    · rename_i b _
      cases b
      · exact ihy
      · exact ihx
    · exact id
  | block id c ih => intro Q t h ho; exact ih ho
  | loop c ih => intro Q t h ho; exact sloop_mono (fun t h K hh => ih hh) ho
  | rangeFunc g ps assign body => intro Q t h ho; exact ho

section
variable {P : Program}
theorem wpEqF {N : Nat} {Q : Exit → T → H → Prop} {c : Code} {t : T} {h : H} {A : Prop} (h0 : A) (e : A = fwp P N c Q t h) : Wp P N c Q t h := ⟨fwp_ok c (e ▸ h0)⟩
def fwpTo (P : Program) (N : Nat) : Nat → Code → (T → H → Prop) → (Exit → T → H → Prop) → T → H → Prop
  | 0, _, K, _ => K
  | n + 1, c, K, Q => fwp P N (seqL c) (athen (fwpTo P N n (seqR c) K Q) Q)
theorem fwpTo_ok {N : Nat} {Q : Exit → T → H → Prop} {K : T → H → Prop} : ∀ (n : Nat) {c : Code} {t : T} {h : H}, fwpTo P N n c K Q t h → awpTo P N n c K Q t h
  | 0, _, _, _, ho => ho
  | n + 1, c, _, _, ho => awp_mono (seqL c) (athen_mono (fun _ _ hh => fwpTo_ok n hh) fun _ _ _ h => h) (fwp_ok _ ho)
theorem awpTo_okF {N : Nat} {Q : Exit → T → H → Prop} {K : T → H → Prop} (n : Nat) {c : Code} {t : T} {h : H} {A : Prop} (h0 : A) (hi : isRow n c = true) (hk : ∀ t h, K t h → Wp P N (rest n c) Q t h) (e : A = fwpTo P N n c K Q t h) : Wp P N c Q t h :=
  awpTo_ok n (A := awpTo P N n c K Q t h) (fwpTo_ok n (e ▸ h0)) hi hk rfl
theorem draw_okF {N : Nat} {Q : Exit → T → H → Prop} {c : Code} {t : T} {h : H} (hi : isDraw c = true) (hd : drawOk P (regOps c) = true) {A : Prop} (h0 : A) (e : A = fReg P (regOps c) (Q .normal) t h) : Wp P N c Q t h :=
  draw_ok hi hd (A := aOps P (regOps c) (List.range (regOps c).size) (Q .normal) t h) (fReg_ok (e ▸ h0)) rfl
end
end Go.Proofs.YtjdhldfeflmneaaGreat.AM
