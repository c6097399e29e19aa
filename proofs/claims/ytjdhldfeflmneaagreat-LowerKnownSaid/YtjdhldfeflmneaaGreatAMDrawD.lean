/-
  Regions that draw their order of evaluation, with calls of functions that look at no memory and with look-ups: where operations that may change places do not disturb each other, the order of the text stands for all.
-/
import Derived.Test.YtjdhldfeflmneaaGreatAMFunc
set_option linter.unusedSimpArgs false
set_option linter.unusedVariables false
namespace Go.Proofs.YtjdhldfeflmneaaGreat.AM

/-- Functions that are known to compute a value from their arguments alone. -/
abbrev DF := FuncId → List Value → Option Value
def DOk (P : Program) (D : DF) : Prop := ∀ f args v h (K : Value → H → Prop), D f args = some v → K v h → Spec P f args h K
def o_dcall (D : DF) (f : FuncId) (args : List Value) (h : H) (K : Value → H → Prop) : Prop :=
  match D f args with
  | some v => args.all boxV = true ∧ K v h
  | none => False
section
variable {P : Program} {D : DF}
def dop (P : Program) (D : DF) (op : Op) (ρ : Operand → Value) (h : H) (K : Value → H → Prop) : Prop :=
  match op with
  | .call c => (match c.callee with
    | .value (.func f) => bif hasBody P f then o_dcall D f (c.args.toList.map ρ) h K else False
    | _ => aCall P c ρ h K)
  | .makeInterface _ _ => aop P op ρ h K
  | _ => aop P op ρ h K
def kindD (P : Program) (op : Op) : Nat :=
  match op with
  | .call c => (match c.callee with
    | .value (.func _) => 0
    | _ => kindOp P (.call c))
  | .lookup _ _ _ _ => 1
  | .mapUpdate _ _ _ _ | .insert _ _ _ _ => 2
  | .makeInterface t x => kindOp P (.makeInterface t x)
  | op => kindOp P op
def isSpecial : Op → Bool
  | .call _ | .lookup _ _ _ _ | .mapUpdate _ _ _ _ | .insert _ _ _ _ => true
  | _ => false
theorem kindD_eq {op : Op} (h : isSpecial op = false) : kindD P op = kindOp P op := by
  cases op <;> first | (simp [isSpecial] at h; done) | rfl
theorem dop_eq {op : Op} (h : isSpecial op = false) : dop P D op = aop P op := by
  cases op <;> first | (simp [isSpecial] at h; done) | rfl
theorem dop_ok (hD : DOk P D) {op : Op} {ρ : Operand → Value} {h : H} {K : Value → H → Prop} (ho : dop P D op ρ h K) : aop P op ρ h K := by
  cases hs : isSpecial op
  · rw [dop_eq hs] at ho; exact ho
  cases op <;> first | (simp [isSpecial] at hs; done) | exact ho | skip
  rename_i c
  unfold dop at ho
  simp only at ho
  split at ho
  · rename_i f hc
    simp only [aop, aCall, hc]
    cases hb : hasBody P f
    · rw [hb] at ho; exact ho
    · rw [hb, cond_true] at ho
      unfold o_dcall at ho
      split at ho
      · rename_i v hv
        exact ⟨ho.1, hD _ _ _ _ _ hv ho.2⟩
      · exact ho.elim
  · exact ho
theorem dop_mono {op : Op} {ρ : Operand → Value} {h : H} {K K' : Value → H → Prop} (hk : ∀ v h, K v h → K' v h) (ho : dop P D op ρ h K) : dop P D op ρ h K' := by
  cases hs : isSpecial op
  · rw [dop_eq hs] at ho ⊢; exact aop_mono hk ho
  cases op <;> first | (simp [isSpecial] at hs; done) | exact aop_mono (op := .lookup ..) hk ho | exact aop_mono (op := .mapUpdate ..) hk ho | exact aop_mono (op := .insert ..) hk ho | skip
  rename_i c
  unfold dop at ho ⊢
  simp only at ho ⊢
  revert ho
  split
  · rename_i f hc
    cases hb : hasBody P f
    · exact id
    · simp only [cond_true]
      unfold o_dcall
      split
      · exact fun ho => ⟨ho.1, hk _ _ ho.2⟩
      · exact id
  · exact aCall_mono hk
theorem dop_det {op : Op} {ρ : Operand → Value} (hk : kindD P op < 3) : Det (fun K h => dop P D op ρ h K) (kindD P op) := by
  cases hs : isSpecial op
  · rw [kindD_eq hs] at hk ⊢; rw [dop_eq hs]; exact aop_det hk
  cases op <;> try (simp [isSpecial] at hs; done)
  case call c =>
    unfold kindD at hk ⊢
    unfold dop
    simp only at hk ⊢
    revert hk
    split
    · rename_i f hc
      intro _
      refine det_val (r := fun K => bif hasBody P f then (match D f (c.args.toList.map ρ) with | some v => (c.args.toList.map ρ).all boxV = true ∧ K v | none => False) else False) fun K h => ?_
      revert h
      cases hasBody P f
      · exact fun h => absurd h id
      · simp only [cond_true]
        split
        · exact fun h => ⟨_, h.2, fun _ h' => ⟨h.1, h'⟩⟩
        · exact fun h => absurd h id
    · intro hk; exact aop_det (op := .call c) hk
  case lookup t x k ok =>
    intro K h hr
    unfold dop at hr ⊢
    simp only [aop] at hr ⊢
    revert hr
    split
    · split
      · unfold o_lookup
        rintro ⟨h0, hr⟩
        revert hr
        repeat' split
        all_goals intro hr
        all_goals first | exact ⟨_, _, hr, fun _ => rfl, fun _ hh => ⟨h0, hh⟩, fun h => absurd h (by simp [kindD])⟩ | exact ⟨_, _, hr.2, fun _ => rfl, fun _ hh => ⟨h0, hr.1, hh⟩, fun h => absurd h (by simp [kindD])⟩ | exact absurd hr id
      · intro hr; exact absurd hr id
    · intro hr; exact absurd hr id
  case mapUpdate t m k x =>
    intro K h hr
    unfold dop at hr ⊢
    simp only [aop] at hr ⊢
    revert hr
    split
    · split
      · unfold o_mapUpdate
        rintro ⟨h0, h1, hr⟩
        revert hr
        repeat' split
        all_goals intro hr
        all_goals first | exact ⟨_, _, hr.2, fun h => absurd h (by simp [kindD]), fun _ hh => ⟨h0, h1, hr.1, hh⟩, fun h => absurd h (by simp [kindD])⟩ | exact absurd hr id
      · intro hr; exact absurd hr id
    · intro hr; exact absurd hr id
  case insert t m k x =>
    intro K h hr
    unfold dop at hr ⊢
    simp only [aop] at hr ⊢
    revert hr
    split
    · split
      · unfold o_mapUpdate
        rintro ⟨h0, h1, hr⟩
        revert hr
        repeat' split
        all_goals intro hr
        all_goals first | exact ⟨_, _, hr.2, fun h => absurd h (by simp [kindD]), fun _ hh => ⟨h0, h1, hr.1, hh⟩, fun h => absurd h (by simp [kindD])⟩ | exact absurd hr id
      · intro hr; exact absurd hr id
    · intro hr; exact absurd hr id
theorem dop_congr {op : Op} {ρ ρ' : Operand → Value} (hk : kindD P op < 3) (hρ : ∀ x ∈ op.operands.toList, ρ x = ρ' x) : dop P D op ρ = dop P D op ρ' := by
  cases hs : isSpecial op
  · rw [kindD_eq hs] at hk; rw [dop_eq hs]; exact aop_congr hk hρ
  cases op <;> try (simp [isSpecial] at hs; done)
  case call c =>
    have hm : c.args.toList.map ρ = c.args.toList.map ρ' := List.map_congr_left fun x hx => hρ x (by simp [Op.operands, Call.operands]; exact .inr (by simpa using hx))
    unfold kindD at hk
    unfold dop
    simp only at hk ⊢
    revert hk
    split
    · intro _; rw [hm]
    · intro hk; exact aop_congr (op := .call c) hk hρ
  all_goals
    simp only [Op.operands] at hρ
    simp at hρ
    unfold dop
    simp only [aop]
    simp [hρ]
def dStep (P : Program) (D : DF) (ops : Array Oper) (i : Nat) (K : T → H → Prop) (t : T) (h : H) : Prop :=
  match ops[i]? with
  | none => K t h
  | some o =>
    match o.guard with
    | none => dop P D o.op (aev t) h fun v h => K (tput t o.dst v) h
    | some (j, want) => o_guard (guardVal ops j t) want (dop P D o.op (aev t) h) (fun v h => K (tput t o.dst v) h) h
def dOps (P : Program) (D : DF) (ops : Array Oper) : List Nat → (T → H → Prop) → T → H → Prop
  | [], K, t, h => K t h
  | i :: is, K, t, h => dStep P D ops i (dOps P D ops is K) t h
def dAny (P : Program) (D : DF) (ops : Array Oper) (K : T → H → Prop) : Nat → Array Bool → T → H → Prop
  | 0, listed, t, h => Region.ready .any ops listed = [] ∧ K t h
  | fuel + 1, listed, t, h => (Region.ready .any ops listed = [] → K t h) ∧
      ∀ i ∈ Region.ready .any ops listed, dStep P D ops i (dAny P D ops K fuel (listed.setIfInBounds i true)) t h
theorem dStep_mono {ops : Array Oper} {i : Nat} {K K' : T → H → Prop} {t : T} {h : H} (hk : ∀ t h, K t h → K' t h) (hs : dStep P D ops i K t h) : dStep P D ops i K' t h := by
  unfold dStep at *
  revert hs
  split
  · exact hk _ _
  · split
    · exact dop_mono fun _ _ => hk _ _
    · unfold o_guard
      split
      · rename_i j want _ _ b _
        cases (b == want)
        · exact hk _ _
        · exact dop_mono fun _ _ => hk _ _
      · exact hk _ _
theorem dStep_ok (hD : DOk P D) {ops : Array Oper} {i : Nat} {K : T → H → Prop} {t : T} {h : H} (hs : dStep P D ops i K t h) : aStep P ops i K t h := by
  unfold dStep at hs
  unfold aStep
  cases ho : ops[i]? with
  | none => rw [ho] at hs; exact hs
  | some o =>
    rw [ho] at hs
    simp only at hs ⊢
    cases hg : o.guard with
    | none => rw [hg] at hs; exact dop_ok hD hs
    | some g =>
      obtain ⟨j, want⟩ := g
      rw [hg] at hs
      simp only at hs ⊢
      unfold o_guard at *
      cases hv : guardVal ops j t with
      | bool b =>
        rw [hv] at hs
        simp only at hs ⊢
        cases hb : (b == want)
        · rw [hb] at hs; exact hs
        · rw [hb] at hs; exact dop_ok hD hs
      | _ => rw [hv] at hs; exact hs
theorem dAny_ok (hD : DOk P D) {ops : Array Oper} {K : T → H → Prop} : ∀ (fuel : Nat) (l : Array Bool) {t h}, dAny P D ops K fuel l t h → aAny P ops K fuel l t h
  | 0, _, _, _, ho => ho
  | fuel + 1, l, t, h, ho => ⟨ho.1, fun i hi => dStep_ok hD (dStep_mono (fun t h => dAny_ok hD fuel _) (ho.2 i hi))⟩

theorem dStep_det {ops : Array Oper} {i : Nat} {K : T → H → Prop} {t : T} {h : H} {o : Oper} (ho : ops[i]? = some o) (hk : kindD P o.op < 3) (hs : dStep P D ops i K t h) :
    ∃ v h', K (tput t o.dst v) h' ∧ (kindD P o.op < 2 → h' = h) ∧ (∀ (t2 : T), (∀ d ∈ o.looksAt ops, t d = t2 d) → (∀ K' : T → H → Prop, K' (tput t2 o.dst v) h' → dStep P D ops i K' t2 h) ∧
      (kindD P o.op = 0 → ∀ h2 (K' : T → H → Prop), K' (tput t2 o.dst v) h2 → dStep P D ops i K' t2 h2)) := by
  unfold dStep at hs ⊢
  simp only [ho] at hs ⊢
  cases hg : o.guard with
  | none =>
    simp only [hg] at hs ⊢
    obtain ⟨v, h', h1, h2, h3, h4⟩ := dop_det hk _ _ hs
    refine ⟨v, h', h1, h2, fun t2 ht => ?_⟩
    have e : dop P D o.op (aev t2) = dop P D o.op (aev t) := (dop_congr hk (aev_congr ht)).symm
    rw [e]
    exact ⟨fun K' hk' => h3 (fun v h => K' (tput t2 o.dst v) h) hk', fun h0 hh K' hk' => h4 h0 hh (fun v h => K' (tput t2 o.dst v) h) hk'⟩
  | some g =>
    obtain ⟨j, want⟩ := g
    simp only [hg] at hs ⊢
    unfold o_guard at hs ⊢
    cases hq : guardVal ops j t with
    | bool b =>
      simp only [hq] at hs
      cases hb : (b == want) with
      | true =>
        simp only [hb, cond_true] at hs
        obtain ⟨v, h', h1, h2, h3, h4⟩ := dop_det hk _ _ hs
        refine ⟨v, h', h1, h2, fun t2 ht => ?_⟩
        have e : dop P D o.op (aev t2) = dop P D o.op (aev t) := (dop_congr hk (aev_congr ht)).symm
        simp only [← guardVal_congr hg ht, hq, hb, cond_true]
        rw [e]
        exact ⟨fun K' hk' => h3 (fun v h => K' (tput t2 o.dst v) h) hk', fun h0 hh K' hk' => h4 h0 hh (fun v h => K' (tput t2 o.dst v) h) hk'⟩
      | false =>
        simp only [hb, cond_false] at hs
        refine ⟨undef, h, hs, fun _ => rfl, fun t2 ht => ?_⟩
        simp only [← guardVal_congr hg ht, hq, hb, cond_false]
        exact ⟨fun _ h => h, fun _ _ _ h => h⟩
    | _ =>
      simp only [hq] at hs
      refine ⟨undef, h, hs, fun _ => rfl, fun t2 ht => ?_⟩
      simp only [← guardVal_congr hg ht, hq]
      exact ⟨fun _ h => h, fun _ _ _ h => h⟩

/-- Two operations that may change places. -/
def freeD (P : Program) (ops : Array Oper) (x y : Oper) : Bool :=
  x.apart ops y && (Nat.beq (kindD P x.op) 0 || Nat.beq (kindD P y.op) 0 || (Nat.blt (kindD P x.op) 2 && Nat.blt (kindD P y.op) 2))

theorem swapD_ok {ops : Array Oper} {i j : Nat} {K : T → H → Prop} {t : T} {h : H} {x y : Oper} (hj : ops[j]? = some x) (hi : ops[i]? = some y) (hx : kindD P x.op < 3) (hy : kindD P y.op < 3) (hf : freeD P ops x y = true)
    (hs : dStep P D ops j (dStep P D ops i K) t h) : dStep P D ops i (dStep P D ops j K) t h := by
  simp only [freeD, Bool.and_eq_true, Bool.or_eq_true, Nat.blt_eq] at hf
  obtain ⟨f1, f2, f3⟩ := Oper.apart_spec hf.1
  have hf2 := hf.2
  obtain ⟨vj, hj', a1, a2, a3⟩ := dStep_det hj hx hs
  obtain ⟨vi, hi', b1, b2, b3⟩ := dStep_det hi hy a1
  have ei : ∀ d ∈ y.looksAt ops, tput t x.dst vj d = t d := fun d hd => tput_ne fun he => f1 d he hd
  have ej : ∀ d ∈ x.looksAt ops, t d = tput t y.dst vi d := fun d hd => (tput_ne fun he => f3 d he hd).symm
  have ec : tput (tput t x.dst vj) y.dst vi = tput (tput t y.dst vi) x.dst vj := tput_comm f2
  rw [ec] at b1
  have B := b3 t ei
  have A := a3 _ ej
  by_cases hxw : kindD P x.op < 2
  · have e1 := a2 hxw
    subst e1
    refine B.1 _ ?_
    by_cases hyw : kindD P y.op < 2
    · have e2 := b2 hyw
      subst e2
      exact A.1 _ b1
    · have hx0 : kindD P x.op = 0 := by
        rcases hf2 with (q | q) | q
        · exact Nat.eq_of_beq_eq_true q
        · have := Nat.eq_of_beq_eq_true q; omega
        · omega
      exact A.2 hx0 _ _ b1
  · have hy0 : kindD P y.op = 0 := by
      rcases hf2 with (q | q) | q
      · have := Nat.eq_of_beq_eq_true q; omega
      · exact Nat.eq_of_beq_eq_true q
      · omega
    have e2 := b2 (by omega)
    subst e2
    exact B.2 hy0 _ _ (A.1 _ b1)

def drawD1 (P : Program) (ops : Array Oper) (i : Nat) : Bool :=
  match ops[i]? with
  | some y => Nat.blt (kindD P y.op) 3 && y.after.all (fun e => !Region.binds .any e || Nat.blt e.on i) &&
      (List.range i).all fun j => match ops[j]? with
        | some x => freeD P ops x y || y.after.any fun e => Region.binds .any e && Nat.beq e.on j
        | none => false
  | none => false
def drawD (P : Program) (ops : Array Oper) : Bool := (List.range ops.size).all (drawD1 P ops)

theorem moveD_first {ops : Array Oper} {i : Nat} {K : T → H → Prop} {y : Oper} (hi : ops[i]? = some y) (hy : kindD P y.op < 3) : ∀ (pre post : List Nat), (∀ j ∈ pre, ∃ x, ops[j]? = some x ∧ kindD P x.op < 3 ∧ freeD P ops x y = true) →
    ∀ {t h}, dOps P D ops (pre ++ i :: post) K t h → dStep P D ops i (dOps P D ops (pre ++ post) K) t h
  | [], _, _, _, _, ho => ho
  | j :: pre, post, hp, t, h, ho => by
    obtain ⟨x, h1, h2, h3⟩ := hp j (List.mem_cons_self ..)
    have ho' : dStep P D ops j (dStep P D ops i (dOps P D ops (pre ++ post) K)) t h := dStep_mono (fun t h hh => moveD_first hi hy pre post (fun j hj => hp j (List.mem_cons_of_mem _ hj)) hh) ho
    exact swapD_ok h1 hi h2 hy h3 ho'

theorem dAny_of_text {ops : Array Oper} (hok : drawD P ops = true) {K : T → H → Prop} : ∀ (fuel : Nat) (l : Array Bool), l.size = ops.size → (restL ops.size l).length = fuel → ∀ {t h}, dOps P D ops (restL ops.size l) K t h → dAny P D ops K fuel l t h := by
  have ok1 : ∀ i, i < ops.size → drawD1 P ops i = true := fun i hi => List.all_eq_true.1 hok i (List.mem_range.2 hi)
  have hrd : ∀ l : Array Bool, ∀ i ∈ Region.ready .any ops l, i ∈ restL ops.size l := by
    intro l i hi
    simp only [Region.ready, List.mem_filter, Bool.and_eq_true] at hi
    exact List.mem_filter.2 ⟨hi.1, hi.2.1⟩
  intro fuel
  induction fuel with
  | zero =>
    intro l hl hn t h ho
    have he := List.length_eq_zero_iff.1 hn
    rw [he] at ho
    refine ⟨?_, ho⟩
    cases hr : Region.ready .any ops l with
    | nil => rfl
    | cons a r =>
      have := hrd l a (by rw [hr]; exact List.mem_cons_self ..)
      rw [he] at this
      cases this
  | succ fuel ih =>
    intro l hl hn t h ho
    refine ⟨fun he => ?_, fun i hi => ?_⟩
    · exfalso
      cases hq : restL ops.size l with
      | nil => rw [hq] at hn; cases hn
      | cons i r =>
        have him : i ∈ restL ops.size l := by rw [hq]; exact List.mem_cons_self ..
        have hil := List.mem_filter.1 him
        have hin : i < ops.size := List.mem_range.1 hil.1
        have hmin : ∀ j, j < i → j ∉ restL ops.size l := by
          have hs : (restL ops.size l).Pairwise (· < ·) := List.Pairwise.filter _ List.pairwise_lt_range
          rw [hq] at hs
          intro j hj hjm
          rw [hq] at hjm
          rcases List.mem_cons.1 hjm with rfl | hjm
          · omega
          · have := (List.pairwise_cons.1 hs).1 j hjm; omega
        have : i ∈ Region.ready .any ops l := by
          simp only [Region.ready, List.mem_filter, Bool.and_eq_true]
          refine ⟨hil.1, hil.2, ?_⟩
          have h1 := ok1 i hin
          unfold drawD1 at h1
          cases hy : ops[i]? with
          | none => rw [hy] at h1; cases h1
          | some y =>
            rw [hy] at h1
            simp only [Bool.and_eq_true] at h1
            simp only [Option.map_some, Option.getD_some]
            refine Array.all_eq_true_iff_forall_mem.2 fun e hem => ?_
            have h2 := Array.all_eq_true_iff_forall_mem.1 h1.1.2 e hem
            cases hb : Region.binds .any e with
            | false => rfl
            | true =>
              simp only [hb, Bool.not_true, Bool.false_or, Nat.blt_eq] at h2 ⊢
              have h3 := hmin _ h2
              have h4 : e.on < ops.size := by omega
              have h5 : l.getD e.on true ≠ false := fun hf => h3 (List.mem_filter.2 ⟨List.mem_range.2 h4, by simp [hf]⟩)
              have h6 : e.on < l.size := by omega
              simp only [Array.getD, h6, dif_pos] at h5 ⊢
              simpa using h5
        rw [he] at this
        cases this
    · have him := hrd l i hi
      have hil := List.mem_filter.1 him
      have hin : i < ops.size := List.mem_range.1 hil.1
      obtain ⟨pre, post, hpp⟩ := List.append_of_mem him
      have hs : (restL ops.size l).Pairwise (· < ·) := List.Pairwise.filter _ List.pairwise_lt_range
      rw [hpp] at hs
      have hs1 := List.pairwise_append.1 hs
      have hpre : ∀ j ∈ pre, j < i := fun j hj => hs1.2.2 j hj i (List.mem_cons_self ..)
      have hpost : ∀ j ∈ post, i < j := fun j hj => (List.pairwise_cons.1 hs1.2.1).1 j hj
      have hrest : restL ops.size (l.setIfInBounds i true) = pre ++ post := by
        rw [restL_set hl hin, hpp, List.filter_append, List.filter_cons]
        have e1 : pre.filter (fun j => !Nat.beq j i) = pre := List.filter_eq_self.2 fun j hj => by
          have := hpre j hj
          cases hq : Nat.beq j i with
          | false => rfl
          | true => have := Nat.eq_of_beq_eq_true hq; omega
        have e2 : post.filter (fun j => !Nat.beq j i) = post := List.filter_eq_self.2 fun j hj => by
          have := hpost j hj
          cases hq : Nat.beq j i with
          | false => rfl
          | true => have := Nat.eq_of_beq_eq_true hq; omega
        rw [e1, e2]
        simp
      have h1 := ok1 i hin
      unfold drawD1 at h1
      cases hy : ops[i]? with
      | none => rw [hy] at h1; cases h1
      | some y =>
        rw [hy] at h1
        simp only [Bool.and_eq_true, Nat.blt_eq] at h1
        rw [hpp] at ho hn
        refine dStep_mono (fun t h hh => ih (l.setIfInBounds i true) (by simpa using hl) (by rw [hrest]; simp at hn ⊢; omega) (by rw [hrest]; exact hh)) (moveD_first hy h1.1.1 pre post (fun j hj => ?_) ho)
        have hji := hpre j hj
        have h2 := List.all_eq_true.1 h1.2 j (List.mem_range.2 hji)
        cases hx : ops[j]? with
        | none => rw [hx] at h2; cases h2
        | some x =>
          rw [hx] at h2
          have hx1 := ok1 j (by omega)
          unfold drawD1 at hx1
          rw [hx] at hx1
          simp only [Bool.and_eq_true, Nat.blt_eq] at hx1
          refine ⟨x, rfl, hx1.1.1, ?_⟩
          simp only [Bool.or_eq_true] at h2
          rcases h2 with h2 | h2
          · exact h2
          · exfalso
            obtain ⟨e, hem, he⟩ : ∃ e, e ∈ y.after ∧ (Region.binds .any e && Nat.beq e.on j) = true := by
              rw [← Array.any_toList] at h2
              obtain ⟨e, h6, h7⟩ := List.any_eq_true.1 h2
              exact ⟨e, by simpa using h6, h7⟩
            simp only [Bool.and_eq_true] at he
            have hej := Nat.eq_of_beq_eq_true he.2
            simp only [Region.ready, List.mem_filter, Bool.and_eq_true, hy, Option.map_some, Option.getD_some] at hi
            have h3 := Array.all_eq_true_iff_forall_mem.1 hi.2.2 e hem
            simp only [he.1, Bool.not_true, Bool.false_or] at h3
            have hjm : j ∈ restL ops.size l := by rw [hpp]; exact List.mem_append_left _ hj
            have h4 := (List.mem_filter.1 hjm).2
            have h5 : j < l.size := by omega
            rw [hej] at h3
            simp only [Array.getD, h5, dif_pos] at h3 h4
            rw [h3] at h4
            cases h4

theorem drawD_ok (hD : DOk P D) {N : Nat} {Q : Exit → T → H → Prop} {c : Code} {t : T} {h : H} (hi : isDraw c = true) (hd : drawD P (regOps c) = true) {A : Prop} (h0 : A) (e : A = dOps P D (regOps c) (List.range (regOps c).size) (Q .normal) t h) : Wp P N c Q t h := by
  have hx := e ▸ h0
  cases c <;> simp only [isDraw, Bool.false_eq_true] at hi
  rename_i id ops d
  subst hi
  refine ⟨?_⟩
  show aAny P ops (Q .normal) ops.size (Array.replicate ops.size false) t h
  have hr : restL ops.size (Array.replicate ops.size false) = List.range ops.size := by
    unfold restL
    refine List.filter_eq_self.2 fun j hj => ?_
    have := List.mem_range.1 hj
    simp [Array.getD, this]
  exact dAny_ok hD _ _ (dAny_of_text (D := D) (ops := ops) hd _ _ (by simp) (by rw [hr]; simp) (by rw [hr]; exact hx))
end
end Go.Proofs.YtjdhldfeflmneaaGreat.AM
