/-
  A region that draws its order of evaluation: where operations that may change places do not disturb each other, the order of the text stands for all.
-/
import Derived.Test.YtjdhldfeflmneaaGreatAMMono
set_option linter.unusedSimpArgs false
set_option linter.unusedVariables false
namespace Go.Proofs.YtjdhldfeflmneaaGreat.AM

section
variable {P : Program}

/-- 0: looks at no memory; 1: reads; 2: a store; 3: anything else. -/
def kindOp (P : Program) (op : Op) : Nat :=
  match op with
  | .move _ | .assign _ | .pick _ _ _ | .nilCheck _ | .binOp _ _ _ _ _ | .unOp _ _ _ | .fieldAddr _ _ _ | .field _ _ _ | .indexAddr _ _ _ | .index _ _ _ | .extract _ _ => 0
  | .convert s d _ => match P.underlying d, P.underlying s with
    | some (.int _), some (.int _) => 0
    | _, _ => 3
  | .call c => (match c.callee, c.args.toList, c.argTypes.toList with
    | .builtin .len, [_], [t] => (match P.underlying t with
      | some .string | some (.slice _) => 0
      | _ => 3)
    | _, _, _ => 3)
  | .load _ _ => 1
  | .store _ _ _ => 2
  | _ => 3

def Det (r : (Value → H → Prop) → H → Prop) (k : Nat) : Prop :=
  ∀ K h, r K h → ∃ v h', K v h' ∧ (k < 2 → h' = h) ∧ (∀ K', K' v h' → r K' h) ∧ (k = 0 → ∀ h2 K', K' v h2 → r K' h2)
theorem det_val {r : (Value → Prop) → Prop} {k : Nat} (h : ∀ K, r K → ∃ v, K v ∧ ∀ K', K' v → r K') : Det (fun K h => r fun v => K v h) k := by
  intro K hh hr
  obtain ⟨v, h1, h2⟩ := h _ hr
  exact ⟨v, hh, h1, fun _ => rfl, fun K' hk => h2 (fun v => K' v hh) hk, fun _ h' K' hk => h2 (fun v => K' v h') hk⟩
theorem pure_det {x : Option Value} (K : Value → Prop) (h : o_pure x K) : ∃ v, K v ∧ ∀ K' : Value → Prop, K' v → o_pure x K' := by
  unfold o_pure at *
  cases x with
  | none => exact absurd h id
  | some v => cases hs : selfV v <;> simp only [hs, cond_true, cond_false] at h ⊢; exact ⟨v, h, fun _ h => h⟩
theorem bin_det {op : BinOp} {xt : TypeId} {x y : Value} (K : Value → Prop) (h : o_bin P op xt x y K) : ∃ v, K v ∧ ∀ K' : Value → Prop, K' v → o_bin P op xt x y K' := by
  unfold o_bin at *
  cases hb : (selfV x && selfV y && okEq P op xt x y) <;> simp only [hb, cond_true, cond_false] at h ⊢
  · revert h
    split <;> intro h <;> first | exact ⟨_, h, fun _ h => h⟩ | exact absurd h id
  · exact pure_det K h
theorem aop_det {op : Op} {ρ : Operand → Value} (hk : kindOp P op < 3) : Det (fun K h => aop P op ρ h K) (kindOp P op) := by
  cases op <;> simp only [kindOp] at hk <;> try exact absurd hk (by decide)
  case move => exact det_val fun K h => ⟨_, h, fun _ h => h⟩
  case assign => exact det_val fun K h => ⟨_, h, fun _ h => h⟩
  case pick c a b =>
    refine det_val (r := fun K => o_pick (ρ c) (ρ a) (ρ b) K) fun K h => ?_
    revert h; unfold o_pick; split <;> intro h <;> first | exact ⟨_, h, fun _ h => h⟩ | exact absurd h id
  case nilCheck x =>
    refine det_val (r := fun K => o_nilCheck (ρ x) K) fun K h => ?_
    revert h; unfold o_nilCheck; split <;> intro h <;> first | exact ⟨_, h, fun _ h => h⟩ | exact absurd h id
  case binOp op xt x y p => exact det_val (r := fun K => o_bin P op xt (ρ x) (ρ y) K) fun K h => bin_det K h
  case unOp op xt x =>
    refine det_val (r := fun K => o_un P op (ρ x) K) fun K h => ?_
    unfold o_un at *
    cases hs : selfV (ρ x) <;> simp only [hs, cond_true, cond_false] at h ⊢
    exact pure_det K h
  case extract x i =>
    refine det_val (r := fun K => o_extract (ρ x) i K) fun K h => ?_
    revert h; unfold o_extract; repeat' split
    all_goals intro h
    all_goals first | exact ⟨_, h, fun _ h => h⟩ | exact absurd h id
  case fieldAddr s x f =>
    refine det_val (r := fun K => match fieldOff P s f with
      | some (off, ft) => bif Nat.beq (szOf P ft) 0 then False else o_fieldAddr off (ρ x) K
      | none => False) fun K h => ?_
    revert h; unfold o_fieldAddr; split
    · rename_i off ft _
      cases Nat.beq (szOf P ft) 0 <;> simp only [cond_true, cond_false]
      · split <;> intro h <;> first | exact ⟨_, h, fun _ h => h⟩ | exact absurd h id
      · intro h; exact absurd h id
    · intro h; exact absurd h id
  case field s x f =>
    refine det_val (r := fun K => match fieldOff P s f with
      | some (off, ft) => (match tySize P ft with | some (ag, n) => o_field ag n off (ρ x) K | none => False)
      | none => False) fun K h => ?_
    revert h; unfold o_field; repeat' split
    all_goals intro h
    all_goals first | exact ⟨_, h, fun _ h => h⟩ | exact absurd h id
  case indexAddr t x i =>
    refine det_val (r := fun K => match P.underlying t with
      | some (.array n e) => (match P.info? e with | some inf => o_indexAddr (some n) inf.size (ρ x) (ρ i) K | none => False)
      | some (.slice e) => (match P.info? e with | some inf => o_indexAddr none inf.size (ρ x) (ρ i) K | none => False)
      | _ => False) fun K h => ?_
    revert h; unfold o_indexAddr; repeat' split
    all_goals intro h
    all_goals first | exact ⟨_, h.2.2, fun _ h' => ⟨h.1, h.2.1, h'⟩⟩ | exact absurd h id
  case index t x i =>
    refine det_val (r := fun K => match P.underlying t with
      | some (.array n e) => (match tySize P e with | some (ag, sz) => o_index false n ag sz (ρ x) (ρ i) K | none => False)
      | some .string => o_index true 0 false 0 (ρ x) (ρ i) K
      | _ => False) fun K h => ?_
    revert h; unfold o_index; repeat' split
    all_goals intro h
    all_goals first | exact ⟨_, h.2.2.2, fun _ h' => ⟨h.1, h.2.1, h.2.2.1, h'⟩⟩ | exact ⟨_, h.2.2, fun _ h' => ⟨h.1, h.2.1, h'⟩⟩ | exact absurd h id | exact absurd h.2.2 id | exact absurd h.2.2.2 id
  case convert s d x =>
    revert hk
    split
    · rename_i k k' h1 h2
      intro _
      have hkk : kindOp P (.convert s d x) = 0 := by simp only [kindOp, h1, h2]
      rw [hkk]
      simp only [aop, h1, h2]
      refine det_val (r := fun K => o_conv k (ρ x) K) fun K h => ?_
      revert h; unfold o_conv; split <;> intro h <;> first | exact ⟨_, h, fun _ h => h⟩ | exact absurd h id
    · intro h; exact absurd h (by decide)
  case call c =>
    revert hk
    unfold kindOp
    simp only
    split
    · rename_i x ty hc ha hy
      split
      · rename_i hu
        intro _
        simp only [aop, aCall, hc, ha, hy, hu]
        refine det_val (r := fun K => o_lenStr (ρ x) K) fun K h => ?_
        revert h; unfold o_lenStr; split <;> intro h <;> first | exact ⟨_, h, fun _ h => h⟩ | exact absurd h id
      · rename_i e hu
        intro _
        simp only [aop, aCall, hc, ha, hy, hu]
        refine det_val (r := fun K => o_lenSl (ρ x) K) fun K h => ?_
        revert h; unfold o_lenSl; split <;> intro h <;> first | exact ⟨_, h, fun _ h => h⟩ | exact absurd h id
      · intro h; exact absurd h (by decide)
    · intro h; exact absurd h (by decide)
  case load t a =>
    intro K h hr
    simp only [aop] at hr ⊢
    revert hr
    split
    · rename_i ag n _
      unfold o_load
      split
      · cases ag <;> simp only [cond_true, cond_false] <;> split <;> intro hr <;> first | exact ⟨_, _, hr, fun _ => rfl, fun _ h => h, fun h => absurd h (by simp [kindOp])⟩ | exact absurd hr id
      · intro hr; exact absurd hr id
    · intro hr; exact absurd hr id
  case store t a x =>
    intro K h hr
    simp only [aop] at hr ⊢
    revert hr
    split
    · unfold o_store
      split
      · split
        · intro hr
          exact ⟨_, _, hr.2.2.2.2, fun h => absurd h (by simp [kindOp]), fun _ h => ⟨hr.1, hr.2.1, hr.2.2.1, hr.2.2.2.1, h⟩, fun h => absurd h (by simp [kindOp])⟩
        · intro hr; exact absurd hr id
      · intro hr; exact absurd hr id
    · intro hr; exact absurd hr id

theorem aop_congr {op : Op} {ρ ρ' : Operand → Value} (hk : kindOp P op < 3) (hρ : ∀ x ∈ op.operands.toList, ρ x = ρ' x) : aop P op ρ = aop P op ρ' := by
  funext h K
  cases op
  case call c =>
    have hm : c.args.toList.map ρ = c.args.toList.map ρ' := List.map_congr_left fun x hx => hρ x (by simp [Op.operands, Call.operands]; exact .inr (by simpa using hx))
    simp only [aop, aCall]
    revert hk
    unfold kindOp
    simp only
    split
    · rename_i x ty hc ha hy
      rw [hc, ha, hy]
      rw [ha] at hm
      simp only [List.map_cons, List.map_nil, List.cons.injEq, and_true] at hm
      intro _
      simp only [hm]
    · intro h; exact absurd h (by decide)
  all_goals simp only [kindOp] at hk
  all_goals first
    | exact absurd hk (by decide)
    | (simp only [Op.operands] at hρ
       simp only [aop]
       simp at hρ
       simp [hρ])

def kindAt (P : Program) (ops : Array Oper) (i : Nat) : Nat := match ops[i]? with | some o => kindOp P o.op | none => 3
def stepAt (ops : Array Oper) (i : Nat) (t : T) (v : Value) : T := match ops[i]? with | some o => tput t o.dst v | none => t

theorem guardVal_congr {ops : Array Oper} {o : Oper} {j : Nat} {w : Bool} {t t2 : T} (hg : o.guard = some (j, w)) (ht : ∀ d ∈ o.looksAt ops, t d = t2 d) : guardVal ops j t = guardVal ops j t2 := by
  unfold guardVal
  cases hj : (ops[j]?).bind (·.dst) with
  | none => rfl
  | some d =>
    refine ht d ?_
    unfold Oper.looksAt
    refine List.mem_append_right _ ?_
    simp only [hg, hj]
    simp
theorem aev_congr {ops : Array Oper} {o : Oper} {t t2 : T} (ht : ∀ d ∈ o.looksAt ops, t d = t2 d) : ∀ x ∈ o.op.operands.toList, aev t x = aev t2 x := by
  intro x hx
  cases x with
  | tmp i => exact ht i (List.mem_append_left _ (List.mem_filterMap.2 ⟨.tmp i, hx, rfl⟩))
  | _ => rfl

theorem aStep_det {ops : Array Oper} {i : Nat} {K : T → H → Prop} {t : T} {h : H} {o : Oper} (ho : ops[i]? = some o) (hk : kindOp P o.op < 3) (hs : aStep P ops i K t h) :
    ∃ v h', K (tput t o.dst v) h' ∧ (kindOp P o.op < 2 → h' = h) ∧ (∀ (t2 : T), (∀ d ∈ o.looksAt ops, t d = t2 d) → (∀ K' : T → H → Prop, K' (tput t2 o.dst v) h' → aStep P ops i K' t2 h) ∧
      (kindOp P o.op = 0 → ∀ h2 (K' : T → H → Prop), K' (tput t2 o.dst v) h2 → aStep P ops i K' t2 h2)) := by
  unfold aStep at hs ⊢
  simp only [ho] at hs ⊢
  cases hg : o.guard with
  | none =>
    simp only [hg] at hs ⊢
    obtain ⟨v, h', h1, h2, h3, h4⟩ := aop_det hk _ _ hs
    refine ⟨v, h', h1, h2, fun t2 ht => ?_⟩
    have e : aop P o.op (aev t2) = aop P o.op (aev t) := (aop_congr hk (aev_congr ht)).symm
    rw [e]
    exact ⟨fun K' hk' => h3 (fun v h => K' (tput t2 o.dst v) h) hk', fun h0 hh K' hk' => h4 h0 hh (fun v h => K' (tput t2 o.dst v) h) hk'⟩
  | some g =>
    obtain ⟨j, want⟩ := g
    simp only [hg] at hs ⊢
    unfold o_guard at hs ⊢
    cases hq : guardVal ops j t with
    | bool b =>
      simp only [hq] at hs
      cases hb : (b == want) with
      | true =>
        simp only [hb, cond_true] at hs
        obtain ⟨v, h', h1, h2, h3, h4⟩ := aop_det hk _ _ hs
        refine ⟨v, h', h1, h2, fun t2 ht => ?_⟩
        have e : aop P o.op (aev t2) = aop P o.op (aev t) := (aop_congr hk (aev_congr ht)).symm
        simp only [← guardVal_congr hg ht, hq, hb, cond_true]
        rw [e]
        exact ⟨fun K' hk' => h3 (fun v h => K' (tput t2 o.dst v) h) hk', fun h0 hh K' hk' => h4 h0 hh (fun v h => K' (tput t2 o.dst v) h) hk'⟩
      | false =>
        simp only [hb, cond_false] at hs
        refine ⟨undef, h, hs, fun _ => rfl, fun t2 ht => ?_⟩
        simp only [← guardVal_congr hg ht, hq, hb, cond_false]
        exact ⟨fun _ h => h, fun _ _ _ h => h⟩
    | _ =>
      simp only [hq] at hs
      refine ⟨undef, h, hs, fun _ => rfl, fun t2 ht => ?_⟩
      simp only [← guardVal_congr hg ht, hq]
      exact ⟨fun _ h => h, fun _ _ _ h => h⟩

/-- Two operations that may change places. -/
def freeOf (P : Program) (ops : Array Oper) (x y : Oper) : Bool :=
  x.apart ops y && (Nat.beq (kindOp P x.op) 0 || Nat.beq (kindOp P y.op) 0 || (Nat.blt (kindOp P x.op) 2 && Nat.blt (kindOp P y.op) 2))

theorem tput_ne {t : T} {dst : Option Tmp} {v : Value} {d : Nat} (h : dst ≠ some d) : tput t dst v d = t d := by
  cases dst with
  | none => rfl
  | some e =>
    have : Nat.beq d e = false := by
      cases hq : Nat.beq d e with
      | false => rfl
      | true => exact absurd (congrArg some (Nat.eq_of_beq_eq_true hq)) (fun he => h he.symm)
    simp [tput, tset, this]
theorem tput_comm {t : T} {a b : Option Tmp} {v u : Value} (h : ∀ d, a = some d → b ≠ some d) : tput (tput t a v) b u = tput (tput t b u) a v := by
  funext d
  by_cases ha : a = some d
  · rw [tput_ne (h d ha), ha]
    simp [tput, tset]
  · rw [tput_ne ha (t := tput t b u)]
    by_cases hb : b = some d
    · rw [hb]; simp [tput, tset]
    · rw [tput_ne hb, tput_ne hb, tput_ne ha]

theorem swap_ok {ops : Array Oper} {i j : Nat} {K : T → H → Prop} {t : T} {h : H} {x y : Oper} (hj : ops[j]? = some x) (hi : ops[i]? = some y) (hx : kindOp P x.op < 3) (hy : kindOp P y.op < 3) (hf : freeOf P ops x y = true)
    (hs : aStep P ops j (aStep P ops i K) t h) : aStep P ops i (aStep P ops j K) t h := by
  simp only [freeOf, Bool.and_eq_true, Bool.or_eq_true, Nat.blt_eq] at hf
  obtain ⟨f1, f2, f3⟩ := Oper.apart_spec hf.1
  have hf2 := hf.2
  obtain ⟨vj, hj', a1, a2, a3⟩ := aStep_det hj hx hs
  obtain ⟨vi, hi', b1, b2, b3⟩ := aStep_det hi hy a1
  have ei : ∀ d ∈ y.looksAt ops, tput t x.dst vj d = t d := fun d hd => tput_ne fun he => f1 d he hd
  have ej : ∀ d ∈ x.looksAt ops, t d = tput t y.dst vi d := fun d hd => (tput_ne fun he => f3 d he hd).symm
  have ec : tput (tput t x.dst vj) y.dst vi = tput (tput t y.dst vi) x.dst vj := tput_comm f2
  rw [ec] at b1
  have B := b3 t ei
  have A := a3 _ ej
  by_cases hxw : kindOp P x.op < 2
  · have e1 := a2 hxw
    subst e1
    refine B.1 _ ?_
    by_cases hyw : kindOp P y.op < 2
    · have e2 := b2 hyw
      subst e2
      exact A.1 _ b1
    · have hx0 : kindOp P x.op = 0 := by
        rcases hf2 with (q | q) | q
        · exact Nat.eq_of_beq_eq_true q
        · have := Nat.eq_of_beq_eq_true q; omega
        · omega
      exact A.2 hx0 _ _ b1
  · have hy0 : kindOp P y.op = 0 := by
      rcases hf2 with (q | q) | q
      · have := Nat.eq_of_beq_eq_true q; omega
      · exact Nat.eq_of_beq_eq_true q
      · omega
    have e2 := b2 (by omega)
    subst e2
    exact B.2 hy0 _ _ (A.1 _ b1)

def drawOk1 (P : Program) (ops : Array Oper) (i : Nat) : Bool :=
  match ops[i]? with
  | some y => Nat.blt (kindOp P y.op) 3 && y.after.all (fun e => !Region.binds .any e || Nat.blt e.on i) &&
      (List.range i).all fun j => match ops[j]? with
        | some x => freeOf P ops x y || y.after.any fun e => Region.binds .any e && Nat.beq e.on j
        | none => false
  | none => false
def drawOk (P : Program) (ops : Array Oper) : Bool := (List.range ops.size).all (drawOk1 P ops)

theorem move_first {ops : Array Oper} {i : Nat} {K : T → H → Prop} {y : Oper} (hi : ops[i]? = some y) (hy : kindOp P y.op < 3) : ∀ (pre post : List Nat), (∀ j ∈ pre, ∃ x, ops[j]? = some x ∧ kindOp P x.op < 3 ∧ freeOf P ops x y = true) →
    ∀ {t h}, aOps P ops (pre ++ i :: post) K t h → aStep P ops i (aOps P ops (pre ++ post) K) t h
  | [], _, _, _, _, ho => ho
  | j :: pre, post, hp, t, h, ho => by
    obtain ⟨x, h1, h2, h3⟩ := hp j (List.mem_cons_self ..)
    have ho' : aStep P ops j (aStep P ops i (aOps P ops (pre ++ post) K)) t h := aStep_mono (fun t h hh => move_first hi hy pre post (fun j hj => hp j (List.mem_cons_of_mem _ hj)) hh) ho
    exact swap_ok h1 hi h2 hy h3 ho'

def restL (n : Nat) (l : Array Bool) : List Nat := (List.range n).filter fun i => !l.getD i true

theorem restL_set {n : Nat} {l : Array Bool} {i : Nat} (hl : l.size = n) (hi : i < n) : restL n (l.setIfInBounds i true) = (restL n l).filter (fun j => !Nat.beq j i) := by
  unfold restL
  rw [List.filter_filter]
  congr 1
  funext j
  by_cases hj : j = i
  · subst hj
    simp [hl, hi]
  · have : Nat.beq j i = false := by
      cases hq : Nat.beq j i with
      | false => rfl
      | true => exact absurd (Nat.eq_of_beq_eq_true hq) hj
    simp only [this, Bool.not_false, Bool.true_and]
    congr 1
    by_cases h5 : j < l.size
    · simp [Array.getD, h5, Ne.symm hj]
    · simp [Array.getD, h5]

theorem any_of_text {ops : Array Oper} (hok : drawOk P ops = true) {K : T → H → Prop} : ∀ (fuel : Nat) (l : Array Bool), l.size = ops.size → (restL ops.size l).length = fuel → ∀ {t h}, aOps P ops (restL ops.size l) K t h → aAny P ops K fuel l t h := by
  have ok1 : ∀ i, i < ops.size → drawOk1 P ops i = true := fun i hi => List.all_eq_true.1 hok i (List.mem_range.2 hi)
  have hrd : ∀ l : Array Bool, ∀ i ∈ Region.ready .any ops l, i ∈ restL ops.size l := by
    intro l i hi
    simp only [Region.ready, List.mem_filter, Bool.and_eq_true] at hi
    exact List.mem_filter.2 ⟨hi.1, hi.2.1⟩
  intro fuel
  induction fuel with
  | zero =>
    intro l hl hn t h ho
    have he := List.length_eq_zero_iff.1 hn
    rw [he] at ho
    refine ⟨?_, ho⟩
    cases hr : Region.ready .any ops l with
    | nil => rfl
    | cons a r =>
      have := hrd l a (by rw [hr]; exact List.mem_cons_self ..)
      rw [he] at this
      cases this
  | succ fuel ih =>
    intro l hl hn t h ho
    refine ⟨fun he => ?_, fun i hi => ?_⟩
    · exfalso
      cases hq : restL ops.size l with
      | nil => rw [hq] at hn; cases hn
      | cons i r =>
        have him : i ∈ restL ops.size l := by rw [hq]; exact List.mem_cons_self ..
        have hil := List.mem_filter.1 him
        have hin : i < ops.size := List.mem_range.1 hil.1
        have hmin : ∀ j, j < i → j ∉ restL ops.size l := by
          have hs : (restL ops.size l).Pairwise (· < ·) := List.Pairwise.filter _ List.pairwise_lt_range
          rw [hq] at hs
          intro j hj hjm
          rw [hq] at hjm
          rcases List.mem_cons.1 hjm with rfl | hjm
          · omega
          · have := (List.pairwise_cons.1 hs).1 j hjm; omega
        have : i ∈ Region.ready .any ops l := by
          simp only [Region.ready, List.mem_filter, Bool.and_eq_true]
          refine ⟨hil.1, hil.2, ?_⟩
          have h1 := ok1 i hin
          unfold drawOk1 at h1
          cases hy : ops[i]? with
          | none => rw [hy] at h1; cases h1
          | some y =>
            rw [hy] at h1
            simp only [Bool.and_eq_true] at h1
            simp only [Option.map_some, Option.getD_some]
            refine Array.all_eq_true_iff_forall_mem.2 fun e hem => ?_
            have h2 := Array.all_eq_true_iff_forall_mem.1 h1.1.2 e hem
            cases hb : Region.binds .any e with
            | false => rfl
            | true =>
              simp only [hb, Bool.not_true, Bool.false_or, Nat.blt_eq] at h2 ⊢
              have h3 := hmin _ h2
              have h4 : e.on < ops.size := by omega
              have h5 : l.getD e.on true ≠ false := fun hf => h3 (List.mem_filter.2 ⟨List.mem_range.2 h4, by simp [hf]⟩)
              have h6 : e.on < l.size := by omega
              simp only [Array.getD, h6, dif_pos] at h5 ⊢
              simpa using h5
        rw [he] at this
        cases this
    · have him := hrd l i hi
      have hil := List.mem_filter.1 him
      have hin : i < ops.size := List.mem_range.1 hil.1
      obtain ⟨pre, post, hpp⟩ := List.append_of_mem him
      have hs : (restL ops.size l).Pairwise (· < ·) := List.Pairwise.filter _ List.pairwise_lt_range
      rw [hpp] at hs
      have hs1 := List.pairwise_append.1 hs
      have hpre : ∀ j ∈ pre, j < i := fun j hj => hs1.2.2 j hj i (List.mem_cons_self ..)
      have hpost : ∀ j ∈ post, i < j := fun j hj => (List.pairwise_cons.1 hs1.2.1).1 j hj
      have hrest : restL ops.size (l.setIfInBounds i true) = pre ++ post := by
        rw [restL_set hl hin, hpp, List.filter_append, List.filter_cons]
        have e1 : pre.filter (fun j => !Nat.beq j i) = pre := List.filter_eq_self.2 fun j hj => by
          have := hpre j hj
          cases hq : Nat.beq j i with
          | false => rfl
          | true => have := Nat.eq_of_beq_eq_true hq; omega
        have e2 : post.filter (fun j => !Nat.beq j i) = post := List.filter_eq_self.2 fun j hj => by
          have := hpost j hj
          cases hq : Nat.beq j i with
          | false => rfl
          | true => have := Nat.eq_of_beq_eq_true hq; omega
        rw [e1, e2]
        simp
      have h1 := ok1 i hin
      unfold drawOk1 at h1
      cases hy : ops[i]? with
      | none => rw [hy] at h1; cases h1
      | some y =>
        rw [hy] at h1
        simp only [Bool.and_eq_true, Nat.blt_eq] at h1
        rw [hpp] at ho hn
        refine aStep_mono (fun t h hh => ih (l.setIfInBounds i true) (by simpa using hl) (by rw [hrest]; simp at hn ⊢; omega) (by rw [hrest]; exact hh)) (move_first hy h1.1.1 pre post (fun j hj => ?_) ho)
        have hji := hpre j hj
        have h2 := List.all_eq_true.1 h1.2 j (List.mem_range.2 hji)
        cases hx : ops[j]? with
        | none => rw [hx] at h2; cases h2
        | some x =>
          rw [hx] at h2
          have hx1 := ok1 j (by omega)
          unfold drawOk1 at hx1
          rw [hx] at hx1
          simp only [Bool.and_eq_true, Nat.blt_eq] at hx1
          refine ⟨x, rfl, hx1.1.1, ?_⟩
          simp only [Bool.or_eq_true] at h2
          rcases h2 with h2 | h2
          · exact h2
          · exfalso
            obtain ⟨e, hem, he⟩ : ∃ e, e ∈ y.after ∧ (Region.binds .any e && Nat.beq e.on j) = true := by
              rw [← Array.any_toList] at h2
              obtain ⟨e, h6, h7⟩ := List.any_eq_true.1 h2
              exact ⟨e, by simpa using h6, h7⟩
            simp only [Bool.and_eq_true] at he
            have hej := Nat.eq_of_beq_eq_true he.2
            simp only [Region.ready, List.mem_filter, Bool.and_eq_true, hy, Option.map_some, Option.getD_some] at hi
            have h3 := Array.all_eq_true_iff_forall_mem.1 hi.2.2 e hem
            simp only [he.1, Bool.not_true, Bool.false_or] at h3
            have hjm : j ∈ restL ops.size l := by rw [hpp]; exact List.mem_append_left _ hj
            have h4 := (List.mem_filter.1 hjm).2
            have h5 : j < l.size := by omega
            rw [hej] at h3
            simp only [Array.getD, h5, dif_pos] at h3 h4
            rw [h3] at h4
            cases h4

/-- The operations of a region that draws. -/
def regOps : Code → Array Oper | .region _ ops _ => ops | _ => #[]
def isDraw : Code → Bool | .region _ _ d => d | _ => false
theorem draw_ok {N : Nat} {Q : Exit → T → H → Prop} {c : Code} {t : T} {h : H} (hi : isDraw c = true) (hd : drawOk P (regOps c) = true) {A : Prop} (h0 : A) (e : A = aOps P (regOps c) (List.range (regOps c).size) (Q .normal) t h) : Wp P N c Q t h := by
  have hx := e ▸ h0
  cases c <;> simp only [isDraw, Bool.false_eq_true] at hi
  rename_i id ops d
  subst hi
  refine ⟨?_⟩
  show aAny P ops (Q .normal) ops.size (Array.replicate ops.size false) t h
  have hr : restL ops.size (Array.replicate ops.size false) = List.range ops.size := by
    unfold restL
    refine List.filter_eq_self.2 fun j hj => ?_
    have := List.mem_range.1 hj
    simp [Array.getD, this]
  exact any_of_text (ops := ops) hd _ _ (by simp) (by rw [hr]; simp) (by rw [hr]; exact hx)
end
end Go.Proofs.YtjdhldfeflmneaaGreat.AM
