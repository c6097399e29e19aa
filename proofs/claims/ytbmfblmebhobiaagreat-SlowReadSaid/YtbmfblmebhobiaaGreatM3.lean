import Derived.Test.YtbmfblmebhobiaaGreatM2
import Derived.RangeFuncLeaves
import Derived.RangeFuncCalls
/-
  The predicate transformer over the abstract memory tells what the model's machine does: operations, regions, code, functions.
-/
set_option linter.unusedSimpArgs false
set_option linter.unusedVariables false
namespace Go.Proofs.YtbmfblmebhobiaaGreat.AM
open Go.RowKit

/-- The fences that are meant: none at all, maybe in a round. -/
def Wide (F : Fence) : Prop := F = Fence.wide ∨ ∃ l, F = Fence.wide.inRound l
theorem Wide.fn {F : Fence} (h : Wide F) (f : FuncId) : F.fn f := by rcases h with rfl | ⟨l, rfl⟩ <;> trivial
theorem Wide.depth {F : Fence} (h : Wide F) : F.depth.isSome = true → 1 ≤ 0 := by rcases h with rfl | ⟨l, rfl⟩ <;> simp [Fence.wide, Fence.inRound]
theorem Wide.calls {F : Fence} (h : Wide F) {n : Nat} {P : Program} {f : FuncId} {args : Array Value} {w : World} {R : Ending → World → Prop} (hc : Calls P f args w R) : CallsIn F n P f args w R := by
  rcases h with rfl | ⟨l, rfl⟩
  · exact callsIn_wide.2 hc
  · exact CallsIn.inRound l (callsIn_wide.2 hc)
theorem Wide.round {F : Fence} (h : Wide F) {n : Nat} {P : Program} {l : Nat} {f : FuncId} {tmps : Array Value} {assign body : Code} {w : World} {R : Ending → World → Prop} (hc : RoundIn Fence.wide n P l f tmps assign body w R) : RoundIn F n P l f tmps assign body w R := by
  rcases h with rfl | ⟨l, rfl⟩
  · exact hc
  · exact hc

section
variable {P : Program} {W : World} {ι : Env} {h : H} {w : World} {N : Nat} {t : T} {a : Act} {F : Fence}

theorem blt_lt {a b : Nat} (h : Nat.blt a b = true) : a < b := by simpa [Nat.blt_eq] using h
theorem TRel.put (hr : TRel ι N t a.tmps) {d : Option Tmp} {v cv : Value} (hd : (match d with | some d => Nat.blt d N | none => true) = true) (hv : VRel ι v cv) : TRel ι N (tput t d v) (a.put d cv).tmps := by
  cases d with
  | none => exact hr
  | some d =>
    have hlt : d < N := blt_lt hd
    refine ⟨by simp [Act.put, hr.1], fun i hi => ?_⟩
    simp only [tput, tset, Act.put]
    by_cases he : i = d
    · subst he
      have : Nat.beq i i = true := Nat.beq_refl i
      rw [this, cond_true]
      have : (a.tmps.setIfInBounds i cv).getD i undef = cv := by simp [Array.getD, hr.1, hi]
      rw [this]; exact hv
    · have : Nat.beq i d = false := by
        cases hq : Nat.beq i d with
        | false => rfl
        | true => exact absurd (Nat.eq_of_beq_eq_true hq) he
      rw [this, cond_false]
      have : (a.tmps.setIfInBounds d cv).getD i undef = a.tmps.getD i undef := by
        simp [Array.getD_eq_getD_getElem?, Array.getElem?_setIfInBounds_ne (Ne.symm he)]
      rw [this]; exact hr.2 i hi
theorem put_size (a : Act) (d : Option Tmp) (v : Value) : (a.put d v).tmps.size = a.tmps.size := by cases d <;> simp [Act.put]
theorem put_defers (a : Act) (d : Option Tmp) (v : Value) : (a.put d v).defers = a.defers := by cases d <;> simp [Act.put]
theorem tput_top (t : T) {d : Option Tmp} (v : Value) (hd : (match d with | some d => Nat.blt d N | none => true) = true) : tput t d v N = t N := by
  cases d with
  | none => rfl
  | some d =>
    have hlt : d < N := blt_lt hd
    have : Nat.beq N d = false := Bool.eq_false_iff.2 fun hq => Nat.lt_irrefl d (by
      have := Nat.eq_of_beq_eq_true hq
      rw [this] at hlt
      exact hlt)
    simp [tput, tset, this]

theorem VRel.func0 (f : FuncId) : VRel ι (.func (.func f) #[] #[]) (.func (.func f) #[] #[]) := .a (.c (.func f .nil .nil))
theorem operand_rel (hr : TRel ι N t a.tmps) {x : Operand} (hx : okOperand N x = true) : VRel ι (aev t x) (a.eval x) := by
  cases x with
  | tmp i => exact hr.2 i (blt_lt hx)
  | const v => exact vrel_self hx
  | global g => cases hx
  | func f => exact VRel.func0 f

/-- What is behind an operation. -/
def Next' (P : Program) (W : World) (ι : Env) (K : Value → H → Prop) (next : Value → World → Prop) : Prop :=
  ∀ v cv ι' h' w', Env.le ι ι' → HRel P W ι' h' w' → VRel ι' v cv → K v h' → next cv w'

theorem upon_sim {o : Oper} {s : Sem Value} {K : Value → H → Prop} {next : Act → World → Prop} {Q : Exit → Act → World → Prop} (hsem : o.semAt F.round a.eval = (do pure (.value (← s))))
    (hs : Sim P W ι s w K) (hn : Next' P W ι K fun cv w' => next (a.put o.dst cv) w') : o.uponIn F 0 P a next Q ((o.semAt F.round a.eval).run P w) := by
  obtain ⟨cv, w', ι', v, h', h1, h2, h3, h4, h5⟩ := hs
  rw [hsem]
  simp only [Sem.run_bind, h1, Result.andThen_ok, Sem.run_pure]
  exact hn v cv ι' h' w' h2 h3 h4 h5
theorem upon_simU {o : Oper} {s : Sem Unit} {K : Value → H → Prop} {next : Act → World → Prop} {Q : Exit → Act → World → Prop} (hsem : o.semAt F.round a.eval = (do s; pure .skip))
    (hs : SimU P W ι s w fun h => K undef h) (hn : Next' P W ι K fun cv w' => next (a.put o.dst cv) w') : o.uponIn F 0 P a next Q ((o.semAt F.round a.eval).run P w) := by
  obtain ⟨w', ι', h', h1, h2, h3, h4⟩ := hs
  rw [hsem]
  simp only [Sem.run_bind, h1, Result.andThen_ok, Sem.run_pure]
  exact hn undef undef ι' h' w' h2 h3 VRel.undef h4

theorem args_rel (hr : TRel ι N t a.tmps) : ∀ {l : List Operand}, l.all (okOperand N) = true → (l.map (aev t)).all boxV = true → All2 (ARel ι) (l.map (aev t)) (l.map a.eval)
  | [], _, _ => .nil
  | x :: l, hx, hb => by
    simp only [List.all_cons, Bool.and_eq_true, List.map_cons] at hx hb
    exact .cons ((operand_rel hr hx.1).toA hb.1) (args_rel hr hx.2 hb.2)
theorem plain_rel (hr : TRel ι N t a.tmps) : ∀ {l : List Operand}, l.all (okOperand N) = true → (l.map (aev t)).all plainC = true → All2 (SRel ι) (l.map (aev t)) (l.map a.eval)
  | [], _, _ => .nil
  | x :: l, hx, hb => by
    simp only [List.all_cons, Bool.and_eq_true, List.map_cons] at hx hb
    exact .cons ((operand_rel hr hx.1).toS hb.1) (plain_rel hr hx.2 hb.2)
theorem opt_rel (hr : TRel ι N t a.tmps) {x : Option Operand} (hx : ∀ y, x = some y → okOperand N y = true) : ORelOpt ι (x.map (aev t)) (x.map a.eval) := by
  cases x with
  | none => exact .inl ⟨rfl, rfl⟩
  | some y => exact .inr ⟨_, _, rfl, rfl, operand_rel hr (hx y rfl)⟩

theorem hasBody_run {f : FuncId} (hf : hasBody P f = true) (args : Array Value) (w : World) : (callFunc f args).run P w = .ok (.enter f args) w := by
  unfold hasBody at hf
  unfold callFunc
  simp only [Sem.run_bind, run_program, Result.andThen_ok]
  split at hf
  · rename_i fn hfn
    simp only [Bool.and_eq_true, bne_iff_ne, ne_eq] at hf
    simp only [hfn]
    have h1 : (fn.name == "runtime.NumGoroutine") = false := by simpa using hf.2
    have h2 : fn.body.isNone = false := by cases hb : fn.body <;> simp_all
    simp [h1, h2]
  · cases hf

theorem spec_upon {o : Oper} {f : FuncId} {args : List Value} {cargs : Array Value} {K : Value → H → Prop} {next : Act → World → Prop} {Q : Exit → Act → World → Prop} (hF : Wide F)
    (hrun : (o.semAt F.round a.eval).run P w = .ok (.enter f cargs) w) (hr : HRel P W ι h w) (ha : All2 (ARel ι) args cargs.toList) (hs : Spec P f args h K)
    (hn : Next' P W ι K fun cv w' => next (a.put o.dst cv) w') : o.uponIn F 0 P a next Q ((o.semAt F.round a.eval).run P w) := by
  rw [hrun, Oper.uponIn_enter]
  refine ⟨hF.depth, hF.calls ((hs W ι w cargs hr ha).mono ?_)⟩
  rintro e w' ⟨v, cv, ι', h', rfl, h1, h2, h3, h4⟩
  exact hn v cv ι' h' w' h1 h2 h3 h4

theorem yspec_upon {o : Oper} {r : Nat} {l : Loc} {args : List Value} {cargs : Array Value} {K : Value → H → Prop} {next : Act → World → Prop} {Q : Exit → Act → World → Prop} (hF : Wide F)
    (hrun : (o.semAt F.round a.eval).run P w = (Instr.yield l.b cargs).run P w) (hr : HRel P W ι h w) (hl : ι r = some l) (ha : All2 (ARel ι) args cargs.toList) (hs : YSpec P r args h K)
    (hn : Next' P W ι K fun cv w' => next (a.put o.dst cv) w') : o.uponIn F 0 P a next Q ((o.semAt F.round a.eval).run P w) := by
  obtain ⟨L, h1, h2, h3⟩ := hs W ι w cargs l hr hl ha
  rw [hrun, run_yield h1 h2.symm, Oper.uponIn_round]
  refine ⟨hF.depth, hF.round (h3.mono ?_)⟩
  rintro e w' ⟨v, cv, ι', h', rfl, h1, h2, h3, h4⟩
  exact hn v cv ι' h' w' h1 h2 h3 h4

theorem info_of_size {e : TypeId} (h : szOf P e ≠ 0) : ∃ i, P.info? e = some i ∧ i.size = szOf P e := by
  unfold szOf at *
  cases hi : P.info? e with
  | none => rw [hi] at h; exact absurd rfl h
  | some i => exact ⟨i, rfl, by simp⟩

theorem call_sound {o : Oper} {c : Call} {K : Value → H → Prop} {next : Act → World → Prop} {Q : Exit → Act → World → Prop} (hF : Wide F) (hsem : o.semAt F.round a.eval = (do let d ← resolve a.eval c o.type; invoke d.target d.args))
    (hops : (Op.call c).operands.toList.all (okOperand N) = true) (hr : HRel P W ι h w) (ht : TRel ι N t a.tmps)
    (hk : aCall P c (aev t) h K) (hn : Next' P W ι K fun cv w' => next (a.put o.dst cv) w') : o.uponIn F 0 P a next Q ((o.semAt F.round a.eval).run P w) := by
  obtain ⟨callee, args, argTypes⟩ := c
  have opr : ∀ x, x ∈ args.toList → VRel ι (aev t x) (a.eval x) := fun x hx => operand_rel ht (List.all_eq_true.1 hops x (by simp [Op.operands, Call.operands]; exact .inr (by simpa using hx)))
  have hargs : args.toList.all (okOperand N) = true := List.all_eq_true.2 fun x hx => List.all_eq_true.1 hops x (by simp [Op.operands, Call.operands]; exact .inr (by simpa using hx))
  unfold aCall at hk
  simp only at hk
  have mk : ∀ {l : List Operand}, args.toList = l → args = l.toArray := fun h => Array.ext' (by simpa using h)
  have mkT : ∀ {l : List TypeId}, argTypes.toList = l → argTypes = l.toArray := fun h => Array.ext' (by simpa using h)
  have bsem : ∀ {b : Builtin} {s : Sem Value}, callee = .builtin b → builtin b argTypes o.type (args.map fun | .const _ => true | _ => false) (args.map a.eval) = (do pure (.value (← s))) →
      o.semAt F.round a.eval = (do pure (.value (← s))) := by
    intro b s hb hs
    subst hb
    rw [hsem, ← hs]; rfl
  split at hk
  · rename_i x ty hal htl
    have ha := mk hal
    have hty := mkT htl
    subst hty
    have hx := opr x (by rw [hal]; simp)
    refine upon_sim (s := Builtin.len_ #[ty] o.type #[a.eval x]) (bsem rfl (by rw [ha]; simp only [List.map_toArray, List.map_cons, List.map_nil]; rfl)) ?_ hn
    split at hk
    · rename_i hu; exact sim_lenStr hu hr hx hk
    · rename_i e hu; exact sim_lenSl hu hr hx hk
    · rename_i kt e hu; exact sim_lenMap hu hr hx hk
    · rename_i n e hu; exact sim_lenArr hu hr hk
    · exact hk.elim
  · rename_i s x ty uty hal htl
    have ha := mk hal
    have hty := mkT htl
    subst hty
    have hs := opr s (by rw [hal]; simp)
    have hx := opr x (by rw [hal]; simp)
    refine upon_sim (s := Builtin.append_ #[ty, uty] o.type #[a.eval s, a.eval x]) (bsem rfl (by rw [ha]; simp only [List.map_toArray, List.map_cons, List.map_nil]; rfl)) ?_ hn
    have fin : ∀ e d, P.underlying ty = some (.slice e) → P.underlying uty = some d → (∀ k, d ≠ .int k) →
        (match P.info? e, zeroOf P e with
        | some i, some z => bif z.cells.size == i.size then o_append e i.size i.bytes (aev t s) (aev t x) h K else False
        | _, _ => False) → Sim P W ι (Builtin.append_ #[ty, uty] o.type #[a.eval s, a.eval x]) w K := by
      intro e d hu hd hdk hk
      split at hk
      · rename_i i z hi hz
        cases hzs : (z.cells.size == i.size) with
        | false => rw [hzs, cond_false] at hk; exact hk.elim
        | true => rw [hzs, cond_true] at hk; exact sim_append hu ⟨d, hd, hdk⟩ hi hz (by simpa using hzs) hr hs hx hk
      · exact hk.elim
    split at hk
    · rename_i e e' hu hu'; exact fin e _ hu hu' (by simp) hk
    · rename_i e hu hu'; exact fin e _ hu hu' (by simp) hk
    · exact hk.elim
  · rename_i d x ty uty hal htl
    have ha := mk hal
    have hty := mkT htl
    subst hty
    refine upon_sim (s := Builtin.copy_ #[ty, uty] o.type #[a.eval d, a.eval x]) (bsem rfl (by rw [ha]; simp only [List.map_toArray, List.map_cons, List.map_nil]; rfl)) ?_ hn
    split at hk
    · rename_i e hu
      split at hk
      · rename_i i hi; exact sim_copy hu hi hr (opr d (by rw [hal]; simp)) (opr x (by rw [hal]; simp)) hk
      · exact hk.elim
    · exact hk.elim
  · rename_i m k ty uty hal htl
    have ha := mk hal
    have hty := mkT htl
    subst hty
    refine upon_sim (s := Builtin.delete_ #[ty, uty] o.type #[a.eval m, a.eval k]) (bsem rfl (by rw [ha]; simp only [List.map_toArray, List.map_cons, List.map_nil]; rfl)) ?_ hn
    split at hk
    · rename_i kt e hu
      split at hk
      · rename_i kk hkk; exact sim_delete hu hkk rfl hr (opr m (by rw [hal]; simp)) (opr k (by rw [hal]; simp)) hk
      · exact hk.elim
    · exact hk.elim
  · rename_i x y hal
    have ha := mk hal
    have hx := opr x (by rw [hal]; simp)
    have hy := opr y (by rw [hal]; simp)
    unfold o_minmax at hk
    cases hs : (selfV (aev t x) && selfV (aev t y)) with
    | false => rw [hs, cond_false] at hk; exact hk.elim
    | true =>
      rw [hs, cond_true] at hk
      simp only [Bool.and_eq_true] at hs
      refine upon_sim (s := Builtin.min2 (a.eval x) (a.eval y)) (bsem rfl (by rw [ha]; simp [builtin, Builtin.min_])) ?_ hn
      rw [vrel_eq hs.1 hx, vrel_eq hs.2 hy]; exact sim_pure hr hk
  · rename_i x y hal
    have ha := mk hal
    have hx := opr x (by rw [hal]; simp)
    have hy := opr y (by rw [hal]; simp)
    unfold o_minmax at hk
    cases hs : (selfV (aev t x) && selfV (aev t y)) with
    | false => rw [hs, cond_false] at hk; exact hk.elim
    | true =>
      rw [hs, cond_true] at hk
      simp only [Bool.and_eq_true] at hs
      refine upon_sim (s := Builtin.max2 (a.eval x) (a.eval y)) (bsem rfl (by rw [ha]; simp [builtin, Builtin.max_])) ?_ hn
      rw [vrel_eq hs.1 hx, vrel_eq hs.2 hy]; exact sim_pure hr hk
  · rename_i f
    cases hb : hasBody P f with
    | false => rw [hb, cond_false] at hk; exact hk.elim
    | true =>
    rw [hb, cond_true] at hk
    obtain ⟨hbox, hk⟩ := hk
    refine spec_upon (cargs := args.map a.eval) (args := args.toList.map (aev t)) hF ?_ hr ?_ hk hn
    · rw [hsem]
      have : ∀ w, (invoke (.fn (.func f) #[]) (args.map a.eval)).run P w = .ok (.enter f (args.map a.eval)) w := fun w => by
        simp [invoke, hasBody_run hb]
      simp [resolve, Act.eval, Deferred.ofValue, this]
    · have := args_rel ht hargs hbox
      simpa using this
  · rename_i i
    have hf : VRel ι (t i) (a.eval (.tmp i)) := operand_rel ht (List.all_eq_true.1 hops (.tmp i) (by simp [Op.operands, Call.operands]))
    obtain ⟨hbox, hk⟩ := hk
    have hav := args_rel ht hargs hbox
    have hres : ∀ fn first captured, a.eval (.tmp i) = .func fn first captured → o.semAt F.round a.eval = invoke (.fn fn captured) (first ++ args.map a.eval) := by
      intro fn first captured he
      rw [hsem]
      simp [resolve, he, Deferred.ofValue]
    generalize hce : a.eval (.tmp i) = ce at hf
    simp only [aev] at hk
    split at hk
    · rename_i f first captured hv
      obtain ⟨hb, hk⟩ := hk
      rw [hv] at hf
      have hc := hf.cell rfl
      cases hc with
      | s hc => cases hc
      | func f h1 h2 =>
        rename_i first' captured'
        refine spec_upon (cargs := first' ++ args.map a.eval ++ captured') hF ?_ hr ?_ hk hn
        · rw [hres _ _ _ hce]
          simp [invoke, hasBody_run hb]
        · have hs1 : All2 (ARel ι) first.toList first'.toList := h1.mono fun _ _ h => .c (.s h)
          have hs2 : All2 (ARel ι) captured.toList captured'.toList := h2.mono fun _ _ h => .c (.s h)
          simpa using (hs1.append hav).append hs2
    · rename_i r b c hv
      obtain ⟨h1, h2, hk⟩ := hk
      rw [hv] at hf
      have hc := hf.cell rfl
      cases hc with
      | s hc => cases hc
      | yield hl =>
        rename_i l
        refine yspec_upon (cargs := args.map a.eval) hF ?_ hr hl ?_ hk hn
        · rw [hres _ _ _ hce]
          simp [invoke]
        · simpa using hav
    · exact hk.elim
  · exact hk.elim

set_option maxHeartbeats 2000000 in
theorem aop_sound {o : Oper} {K : Value → H → Prop} {next : Act → World → Prop} {Q : Exit → Act → World → Prop} (hF : Wide F) (hok : okOper N o = true) (hr : HRel P W ι h w) (ht : TRel ι N t a.tmps)
    (hk : aop P o.op (aev t) h K) (hn : Next' P W ι K fun cv w' => next (a.put o.dst cv) w') : o.wpIn F 0 P a w next Q := by
  refine ⟨fun f _ => hF.fn f, ?_⟩
  unfold okOper at hok
  simp only [Bool.and_eq_true] at hok
  obtain ⟨⟨_, hops⟩, hnd⟩ := hok
  have hsem : o.semAt F.round a.eval = execOp a.eval o := Oper.semAt_eq _ _ _ (fun c hc => by rw [hc] at hnd; cases hnd)
  have opr : ∀ x, x ∈ o.op.operands.toList → VRel ι (aev t x) (a.eval x) := fun x hx => operand_rel ht (List.all_eq_true.1 hops x hx)
  obtain ⟨dst, op, type, pos, after, guard⟩ := o
  simp only at hk hops opr hnd
  cases op with
  | move x =>
    exact upon_sim (s := pure (a.eval x)) (by rw [hsem]; rfl) (Sim.quiet hr rfl (opr x (by simp [Op.operands])) hk) hn
  | assign x =>
    exact upon_sim (s := pure (a.eval x)) (by rw [hsem]; rfl) (Sim.quiet hr rfl (opr x (by simp [Op.operands])) hk) hn
  | pick c x y =>
    have hc := opr c (by simp [Op.operands])
    have hx := opr x (by simp [Op.operands])
    have hy := opr y (by simp [Op.operands])
    simp only [aop, o_pick] at hk
    split at hk
    · rename_i q hq
      rw [hq] at hc
      have hcq := hc.bool
      refine upon_sim (s := pure (bif q then a.eval x else a.eval y)) ?_ (Sim.quiet hr rfl ?_ hk) hn
      · rw [hsem]; simp only [execOp, hcq, asBool]; cases q <;> rfl
      · cases q <;> assumption
    · exact hk.elim
  | alloc E =>
    simp only [aop] at hk
    split at hk
    · rename_i z hz; exact upon_sim (by rw [hsem]; rfl) (sim_alloc hz hr hk) hn
    · exact hk.elim
  | box E x => exact upon_sim (by rw [hsem]; rfl) (sim_box hr (opr x (by simp [Op.operands])) hk.1 hk.2) hn
  | build ty ps =>
    refine upon_sim (s := Instr.build ty (ps.map fun (i, x) => (i, a.eval x))) (by rw [hsem]; rfl) ?_ hn
    have hk' : o_build P ty (ps.toList.map fun p => (p.1, aev t p.2)) fun v => K v h := hk
    have := sim_build (t := ty) (ps := ps.toList.map fun p => (p.1, aev t p.2)) (ps' := ps.toList.map fun p => (p.1, a.eval p.2)) hr (fun hb => parts_rel (ρ := aev t) (ρ' := a.eval) (fun p hp => opr p.2 (by simp [Op.operands]; exact ⟨p.1, by simpa using hp⟩)) hb) hk'
    have e : (ps.toList.map fun p => (p.1, a.eval p.2)).toArray = ps.map fun p => (p.1, a.eval p.2) := by apply Array.ext'; simp
    rw [e] at this; exact this
  | buildSlice ty n ps =>
    refine upon_sim (s := Instr.buildSlice ty n (ps.map fun (i, x) => (i, a.eval x))) (by rw [hsem]; rfl) ?_ hn
    simp only [aop, o_buildSlice] at hk
    split at hk
    · rename_i cs e hl
      have := sim_buildSlice (t := ty) (ps := ps.toList.map fun p => (p.1, aev t p.2)) (ps' := ps.toList.map fun p => (p.1, a.eval p.2)) hr (fun hb => parts_rel (ρ := aev t) (ρ' := a.eval) (fun p hp => opr p.2 (by simp [Op.operands]; exact ⟨p.1, by simpa using hp⟩)) hb) hl hk
      have e : (ps.toList.map fun p => (p.1, a.eval p.2)).toArray = ps.map fun p => (p.1, a.eval p.2) := by apply Array.ext'; simp
      rw [e] at this; exact this
    · exact hk.elim
  | load ty x =>
    simp only [aop] at hk
    split at hk
    · rename_i ag n hts; exact upon_sim (by rw [hsem]; rfl) (sim_load hts hr (opr x (by simp [Op.operands])) hk) hn
    · exact hk.elim
  | store ty x y =>
    simp only [aop] at hk
    split at hk
    · rename_i ag n hts
      exact upon_simU (by rw [hsem]; rfl) (sim_store hts hr (opr x (by simp [Op.operands])) (opr y (by simp [Op.operands])) hk) hn
    · exact hk.elim
  | nilCheck x =>
    obtain ⟨v, h1, h2, h3, h4, h5, h6⟩ := sim_nilCheck_run (opr x (by simp [Op.operands])) hk
    refine upon_sim (s := pure (a.eval x)) ?_ (Sim.quiet hr rfl h1 h2) hn
    rw [hsem]
    simp only [execOp]
    generalize a.eval x = cx at *
    cases cx with
    | pointer p => cases p with
      | none => exact absurd rfl h4
      | some _ => rfl
    | nilIface => exact absurd rfl h5
    | nilFunc => exact absurd rfl h6
    | func f b c => cases f with
      | method m => exact absurd rfl (h3 _ _ _)
      | _ => rfl
    | _ => rfl
  | binOp op xt x y yt =>
    exact upon_sim (s := do eqGuard op xt x y (a.eval x) (a.eval y); binOp op xt (a.eval x) (a.eval y)) (by rw [hsem]; rfl) (sim_bin hr (opr x (by simp [Op.operands])) (opr y (by simp [Op.operands])) hk) hn
  | unOp op xt x =>
    have hx := opr x (by simp [Op.operands])
    simp only [aop, o_un] at hk
    cases hs : selfV (aev t x) with
    | false => rw [hs, cond_false] at hk; exact hk.elim
    | true =>
      rw [hs, cond_true] at hk
      have := vrel_eq hs hx
      refine upon_sim (s := Op.unary op (a.eval x)) (by rw [hsem]; rfl) ?_ hn
      rw [this]; exact sim_pure hr hk
  | convert src dst' x =>
    have hx := opr x (by simp [Op.operands])
    refine upon_sim (s := convert src dst' (a.eval x)) (by rw [hsem]; rfl) ?_ hn
    simp only [aop] at hk
    split at hk
    · rename_i k k' hd hs
      unfold o_conv at hk
      split at hk
      · rename_i k2 n hv
        rw [hv] at hx
        rw [hx.int]
        exact Sim.quiet hr (by simp [convert, run_und hs, run_und hd, Conv.intToInt]) (vrel_self rfl) hk
      · exact hk.elim
    · rename_i hd hs
      unfold o_convStr at hk
      split at hk
      · rename_i s hv
        rw [hv] at hx
        rw [hx.string]
        exact Sim.quiet hr (by simp [convert, run_und hs, run_und hd]) (vrel_self rfl) hk
      · exact hk.elim
    · rename_i e hd hs
      split at hk
      · rename_i he; exact sim_bytesToString hs hd he hr hx hk
      · exact hk.elim
    · rename_i e hd hs
      split at hk
      · rename_i i he hi
        cases h1 : Nat.beq i.size 1 with
        | false => rw [h1, cond_false] at hk; exact hk.elim
        | true => rw [h1, cond_true] at hk; exact sim_stringToBytes hs hd he hi (Nat.eq_of_beq_eq_true h1) hr hx hk
      · exact hk.elim
    · rename_i e e' hd hs
      split at hk
      · rename_i he
        cases h1 : Nat.beq src dst' with
        | false => rw [h1, cond_false] at hk; exact hk.elim
        | true => rw [h1, cond_true] at hk; exact sim_mark ⟨_, hs⟩ hd he (Nat.eq_of_beq_eq_true h1) hr hx hk
      · exact hk.elim
    · exact hk.elim
  | makeInterface ty x =>
    have hx := opr x (by simp [Op.operands])
    refine upon_sim (s := Instr.makeInterface ty (a.eval x)) (by rw [hsem]; rfl) ?_ hn
    simp only [aop] at hk
    split at hk
    · exact hk.elim
    · exact hk.elim
    · rename_i d hd h1
      obtain ⟨hp, hk⟩ := hk
      refine Sim.quiet hr (run_makeInterface w ty (a.eval x) ?_) (.a (.c (.iface ty (hx.toS hp)))) hk
      unfold Program.concrete
      rw [h1]
      split <;> simp_all
  | makeFunc fn first captured =>
    cases fn with
    | func f =>
      obtain ⟨h1, h2, hk⟩ := hk
      refine upon_sim (s := Instr.makeFunc (.func f) (first.map a.eval) (captured.map a.eval)) (by rw [hsem]; rfl) ?_ hn
      have e1 : first.toList.all (okOperand N) = true := by
        rw [List.all_eq_true] at hops ⊢
        intro x hx; exact hops x (by simp [Op.operands]; exact .inl (by simpa using hx))
      have e2 : captured.toList.all (okOperand N) = true := by
        rw [List.all_eq_true] at hops ⊢
        intro x hx; exact hops x (by simp [Op.operands]; exact .inr (by simpa using hx))
      refine Sim.quiet (cv := .func (.func f) (first.map a.eval) (captured.map a.eval)) hr rfl (.a (.c (.func f ?_ ?_))) hk
      · simpa using plain_rel ht e1 h1
      · simpa using plain_rel ht e2 h2
    | _ => exact hk.elim
  | makeMap ty r =>
    refine upon_sim (s := Instr.makeMap ty (r.map a.eval)) (by rw [hsem]; rfl) ?_ hn
    have hrr := opt_rel ht (x := r) (fun y hy => List.all_eq_true.1 hops y (by subst hy; simp [Op.operands]))
    simp only [aop] at hk
    split at hk
    · rename_i kt e hu hro
      split at hk
      · rcases hrr with ⟨_, h2⟩ | ⟨v, cv, h1, _⟩
        · exact sim_makeMap hu (.inl h2) hr hk
        · rw [hro] at h1; cases h1
      · exact hk.elim
    · rename_i kt e k n hu hro
      split at hk
      · rcases hrr with ⟨h1, _⟩ | ⟨v, cv, h1, h2, hv⟩
        · rw [hro] at h1; cases h1
        · rw [hro] at h1; cases h1
          exact sim_makeMap hu (.inr ⟨k, n, by rw [h2, hv.int]⟩) hr hk
      · exact hk.elim
    · exact hk.elim
  | makeSlice ty l c =>
    simp only [aop] at hk
    split at hk
    · rename_i e hu
      split at hk
      · rename_i i z hi hz; exact upon_sim (by rw [hsem]; rfl) (sim_makeSlice hu hi hz hr (opr l (by simp [Op.operands])) (opr c (by simp [Op.operands])) hk) hn
      · exact hk.elim
    · exact hk.elim
  | slice ty x lo hi mx =>
    have hx := opr x (by simp [Op.operands])
    have hlo := opt_rel ht (x := lo) (fun y hy => List.all_eq_true.1 hops y (by subst hy; simp [Op.operands]))
    have hhi := opt_rel ht (x := hi) (fun y hy => List.all_eq_true.1 hops y (by subst hy; simp [Op.operands]))
    have hmx := opt_rel ht (x := mx) (fun y hy => List.all_eq_true.1 hops y (by subst hy; simp [Op.operands]))
    refine upon_sim (s := Instr.sliceAt ty (a.eval x) (lo.map a.eval) (hi.map a.eval) (mx.map a.eval)) (by rw [hsem]; rfl) ?_ hn
    simp only [aop] at hk
    split at hk
    · rename_i n e hu
      split at hk
      · exact sim_sliceArr hu (by assumption) hr hx hlo hhi hk
      · exact hk.elim
    · rename_i e hu
      split at hk
      · rename_i inf hi'; exact sim_slice hu hi' hr hx hlo hhi hmx hk
      · exact hk.elim
    · rename_i hu
      cases mx with
      | some _ => exact hk.elim
      | none => exact sim_sliceStr hu hr hx hlo hhi hk
    · exact hk.elim
  | fieldAddr s x f =>
    simp only [aop] at hk
    split at hk
    · rename_i off ft hf
      cases hz : Nat.beq (szOf P ft) 0 with
      | true => rw [hz, cond_true] at hk; exact hk.elim
      | false =>
        rw [hz, cond_false] at hk
        exact upon_sim (by rw [hsem]; rfl) (sim_fieldAddr hf (fun he => by rw [he] at hz; cases hz) hr (opr x (by simp [Op.operands])) hk) hn
    · exact hk.elim
  | field s x f =>
    simp only [aop] at hk
    split at hk
    · rename_i off ft hf
      split at hk
      · rename_i ag n hts; exact upon_sim (by rw [hsem]; rfl) (sim_field hf hts hr (opr x (by simp [Op.operands])) hk) hn
      · exact hk.elim
    · exact hk.elim
  | indexAddr ty x i =>
    have hx := opr x (by simp [Op.operands])
    have hi := opr i (by simp [Op.operands])
    refine upon_sim (s := Instr.indexAt ty (a.eval x) (a.eval i)) (by rw [hsem]; rfl) ?_ hn
    simp only [aop] at hk
    split at hk
    · rename_i n e hu
      split at hk
      · rename_i inf hinf; exact sim_indexAddr_array hu hinf hr hx hi hk
      · exact hk.elim
    · rename_i e hu
      split at hk
      · rename_i inf hinf; exact sim_indexAddr_slice hu hinf hr hx hi hk
      · exact hk.elim
    · exact hk.elim
  | index ty x i =>
    have hx := opr x (by simp [Op.operands])
    have hi := opr i (by simp [Op.operands])
    refine upon_sim (s := Instr.index ty (a.eval x) (a.eval i)) (by rw [hsem]; rfl) ?_ hn
    simp only [aop] at hk
    split at hk
    · rename_i n e hu
      split at hk
      · rename_i ag sz hts; exact sim_index_array hu hts hr hx hi hk
      · exact hk.elim
    · rename_i hu; exact sim_index_string hu hr hx hi hk
    · exact hk.elim
  | lookup ty x k ok =>
    have hx := opr x (by simp [Op.operands])
    have hkk := opr k (by simp [Op.operands])
    refine upon_sim (s := Instr.lookup ty (a.eval x) (a.eval k) ok) (by rw [hsem]; rfl) ?_ hn
    simp only [aop] at hk
    split at hk
    · rename_i kt e hu
      split at hk
      · rename_i z kk hz hkd; exact sim_lookup hu hz hkd hr hx hkk hk
      · exact hk.elim
    · exact hk.elim
  | mapUpdate ty m k x =>
    refine upon_simU (s := Instr.mapUpdate ty (a.eval m) (a.eval k) (a.eval x)) (by rw [hsem]; rfl) ?_ hn
    simp only [aop] at hk
    split at hk
    · rename_i kt e hu
      split at hk
      · rename_i kk hkd; exact sim_mapUpdate hu hkd hr (opr m (by simp [Op.operands])) (opr k (by simp [Op.operands])) (opr x (by simp [Op.operands])) hk
      · exact hk.elim
    · exact hk.elim
  | insert ty m k x =>
    refine upon_simU (s := Instr.mapUpdate ty (a.eval m) (a.eval k) (a.eval x)) (by rw [hsem]; rfl) ?_ hn
    simp only [aop] at hk
    split at hk
    · rename_i kt e hu
      split at hk
      · rename_i kk hkd; exact sim_mapUpdate hu hkd hr (opr m (by simp [Op.operands])) (opr k (by simp [Op.operands])) (opr x (by simp [Op.operands])) hk
      · exact hk.elim
    · exact hk.elim
  | range ty x =>
    refine upon_sim (s := Instr.range ty (a.eval x)) (by rw [hsem]; rfl) ?_ hn
    simp only [aop] at hk
    split at hk
    · rename_i kt e hu; exact sim_range hu hr (opr x (by simp [Op.operands])) hk
    · exact hk.elim
  | next it isStr =>
    cases isStr with
    | true => exact hk.elim
    | false => exact upon_sim (s := Instr.next (a.eval it) false type) (by rw [hsem]; rfl) (sim_next hr (opr it (by simp [Op.operands])) hk) hn
  | entry it => exact upon_sim (s := Instr.entry (a.eval it)) (by rw [hsem]; rfl) (sim_entry hr (opr it (by simp [Op.operands])) hk) hn
  | extract x i => exact upon_sim (by rw [hsem]; rfl) (sim_extract hr (opr x (by simp [Op.operands])) hk) hn
  | call c => exact call_sound hF hsem hops hr ht hk hn
  | _ => exact hk.elim
end
end Go.Proofs.YtbmfblmebhobiaaGreat.AM

/-
  The predicate transformer over the abstract memory tells what the model's machine does: regions, code, functions.
-/
set_option linter.unusedSimpArgs false
set_option linter.unusedVariables false
namespace Go.Proofs.YtbmfblmebhobiaaGreat.AM
open Go.RowKit

section
variable {P : Program} {W : World} {N : Nat} {F : Fence}

def MarkIs (ι : Env) (d : Nat) (df : Deferred) : Prop := ∃ l, ι d = some l ∧ df = { target := .collected l.b, args := #[] }
def DRel (ι : Env) (v : Value) (ds : List Deferred) : Prop := All2 (MarkIs ι) (marks v) ds
theorem DRel.mono {ι ι' : Env} {v : Value} {ds : List Deferred} (h : DRel ι v ds) (hle : Env.le ι ι') : DRel ι' v ds :=
  All2.mono h fun _ _ ⟨l, hl, he⟩ => ⟨l, hle _ _ hl, he⟩

/-- The deferred calls: either just those (no range over a function), or the marks that are noted. -/
def DR (D : Option (List Deferred)) (ι : Env) (v : Value) (ds : List Deferred) : Prop :=
  match D with
  | some d => ds = d
  | none => DRel ι v ds
theorem DR.mono {D : Option (List Deferred)} {ι ι' : Env} {v : Value} {ds : List Deferred} (h : DR D ι v ds) (hle : Env.le ι ι') : DR D ι' v ds := by
  cases D with
  | some d => exact h
  | none => exact DRel.mono h hle

/-- What the abstract side says, in the model's world. -/
def Con (D : Option (List Deferred)) (P : Program) (W : World) (N : Nat) (ι : Env) (Q : T → H → Prop) (a : Act) (w : World) : Prop :=
  ∃ ι' t h, Env.le ι ι' ∧ HRel P W ι' h w ∧ TRel ι' N t a.tmps ∧ DR D ι' (t N) a.defers ∧ Q t h
def ConE (D : Option (List Deferred)) (P : Program) (W : World) (N : Nat) (ι : Env) (Q : Exit → T → H → Prop) (e : Exit) (a : Act) (w : World) : Prop := Con D P W N ι (Q e) a w
theorem Con.mono {D : Option (List Deferred)} {ι ι' : Env} {Q : T → H → Prop} {a : Act} {w : World} (hle : Env.le ι ι') (h : Con D P W N ι' Q a w) : Con D P W N ι Q a w := by
  obtain ⟨ι2, t, hh, h1, h2⟩ := h
  exact ⟨ι2, t, hh, Env.le_trans hle h1, h2⟩
theorem Con.imp {D : Option (List Deferred)} {ι : Env} {Q Q' : T → H → Prop} {a : Act} {w : World} (hq : ∀ t h, Q t h → Q' t h) (h : Con D P W N ι Q a w) : Con D P W N ι Q' a w := by
  obtain ⟨ι2, t, hh, h1, h2, h3, h4, h5⟩ := h
  exact ⟨ι2, t, hh, h1, h2, h3, h4, hq _ _ h5⟩

theorem getD_some {tmps : Array Value} {d : Nat} (h : d < tmps.size) : tmps[d]? = some (tmps.getD d undef) := by
  simp [Array.getD, h]

theorem guard_spec {ops : Array Oper} {t : T} {ι : Env} {a : Act} {o : Oper} {j : Nat} {want : Bool} (hall : ops.toList.all (okOper N) = true) (ht : TRel ι N t a.tmps) (hg : o.guard = some (j, want)) :
    (∃ b, guardVal ops j t = .bool b ∧ Region.wanted o (yielded ops a.tmps) = (b == want)) ∨
    ((∀ b, guardVal ops j t ≠ .bool b) ∧ Region.wanted o (yielded ops a.tmps) = false) := by
  have hw : Region.wanted o (yielded ops a.tmps) = (yielded ops a.tmps j == some want) := by simp [Region.wanted, hg]
  rw [hw]
  have hy : yielded ops a.tmps j = match ((ops[j]?).bind (·.dst)).bind (a.tmps[·]?) with | some (.bool b) => some b | _ => none := rfl
  rw [hy]
  unfold guardVal
  cases hj : (ops[j]?).bind (·.dst) with
  | none => exact .inr ⟨fun b h => by simp [undef] at h, rfl⟩
  | some d =>
    have hdN : d < N := by
      cases hoj : ops[j]? with
      | none => rw [hoj] at hj; cases hj
      | some oj =>
        rw [hoj] at hj
        have hokj : okOper N oj = true := List.all_eq_true.1 hall oj (by simpa using Array.mem_of_getElem? hoj)
        unfold okOper at hokj
        simp only [Bool.and_eq_true] at hokj
        simp only [Option.bind_some] at hj
        rw [hj] at hokj
        exact blt_lt hokj.1.1
    have hv := ht.2 d hdN
    have hget := getD_some (tmps := a.tmps) (d := d) (by rw [ht.1]; exact hdN)
    simp only [Option.bind_some, hget]
    generalize a.tmps.getD d undef = cv at *
    cases htd : t d with
    | bool b => rw [htd] at hv; obtain rfl := hv.bool; exact .inl ⟨b, rfl, by simp⟩
    | _ =>
      refine .inr ⟨fun b h => by simp at h, ?_⟩
      have hcv : ∀ b, cv ≠ .bool b := fun b he => by have := hv.notBool b he; rw [htd] at this; cases this
      cases cv <;> first | rfl | exact absurd rfl (hcv _)

theorem aStep_sound {D : Option (List Deferred)} {ops : Array Oper} {i : Nat} {K : T → H → Prop} {t : T} {h : H} {ι : Env} {a : Act} {w : World} {Q : Exit → Act → World → Prop} (hF : Wide F) (hall : ops.toList.all (okOper N) = true)
    (hr : HRel P W ι h w) (ht : TRel ι N t a.tmps) (hd : DR D ι (t N) a.defers) (hk : aStep P ops i K t h) : wpOpIn F 0 P ops Q i (Con D P W N ι K) a w := by
  unfold aStep at hk
  unfold wpOpIn
  cases ho : ops[i]? with
  | none => rw [ho] at hk; exact ⟨ι, t, h, Env.le_refl _, hr, ht, hd, hk⟩
  | some o =>
    rw [ho] at hk
    simp only at hk ⊢
    have hok : okOper N o = true := List.all_eq_true.1 hall o (by simpa using Array.mem_of_getElem? ho)
    have hdst : (match o.dst with | some d => Nat.blt d N | none => true) = true := by
      unfold okOper at hok; simp only [Bool.and_eq_true] at hok; exact hok.1.1
    have hne : Next' P W ι (fun v h => K (tput t o.dst v) h) fun cv w' => Con D P W N ι K (a.put o.dst cv) w' := by
      intro v cv ι' h' w' h1 h2 h3 h4
      exact ⟨ι', _, h', h1, h2, (ht.mono h1).put hdst h3, by rw [tput_top t v hdst, put_defers]; exact hd.mono h1, h4⟩
    have hrun : aop P o.op (aev t) h (fun v h => K (tput t o.dst v) h) → o.wpIn F 0 P a w (Con D P W N ι K) Q := fun hk => aop_sound hF hok hr ht hk hne
    have hskip : K (tput t o.dst undef) h → (∀ f, o.about P w a.eval = some f → F.fn f) ∧ Con D P W N ι K (a.put o.dst undef) w := fun hk => ⟨fun f _ => hF.fn f, hne undef undef ι h w (Env.le_refl _) hr VRel.undef hk⟩
    cases hg : o.guard with
    | none =>
      rw [hg] at hk
      have hw : Region.wanted o (yielded ops a.tmps) = true := by simp [Region.wanted, hg]
      rw [if_pos hw]; exact hrun hk
    | some jw =>
      obtain ⟨j, want⟩ := jw
      rw [hg] at hk
      simp only at hk
      rcases guard_spec hall ht hg with ⟨b, hv, hw⟩ | ⟨hv, hw⟩
      · rw [hv] at hk
        simp only [o_guard] at hk
        cases hbw : (b == want) with
        | true => rw [hbw, cond_true] at hk; rw [if_pos (by rw [hw, hbw])]; exact hrun hk
        | false => rw [hbw, cond_false] at hk; rw [if_neg (by rw [hw, hbw]; simp)]; exact hskip hk
      · rw [if_neg (by rw [hw]; simp)]
        refine hskip ?_
        unfold o_guard at hk
        split at hk
        · rename_i b hb; exact absurd hb (hv b)
        · exact hk

theorem aOps_sound {D : Option (List Deferred)} {ops : Array Oper} {K : T → H → Prop} {Q : Exit → Act → World → Prop} (hF : Wide F) (hall : ops.toList.all (okOper N) = true) : ∀ (is : List Nat) {t : T} {h : H} {ι : Env} {a : Act} {w : World},
    HRel P W ι h w → TRel ι N t a.tmps → DR D ι (t N) a.defers → aOps P ops is K t h → (∀ a w, Con D P W N ι K a w → Q .normal a w) → wpOpsIn F 0 P ops Q is a w
  | [], t, h, ι, a, w, hr, ht, hd, hk, hq => hq a w ⟨ι, t, h, Env.le_refl _, hr, ht, hd, hk⟩
  | i :: is, t, h, ι, a, w, hr, ht, hd, hk, hq => by
    rw [wpOpsIn_cons]
    refine wpOpIn_mono ?_ (aStep_sound hF hall hr ht hd (show aStep P ops i (aOps P ops is K) t h from hk))
    rintro a' w' ⟨ι', t', h', h1, h2, h3, h4, h5⟩
    exact aOps_sound hF hall is h2 h3 h4 h5 fun a w hc => hq a w (hc.mono h1)

theorem aAny_sound {D : Option (List Deferred)} {ops : Array Oper} {K : T → H → Prop} {Q : Exit → Act → World → Prop} (hF : Wide F) (hall : ops.toList.all (okOper N) = true) : ∀ (fuel : Nat) (listed : Array Bool) {t : T} {h : H} {ι : Env} {a : Act} {w : World},
    HRel P W ι h w → TRel ι N t a.tmps → DR D ι (t N) a.defers → aAny P ops K fuel listed t h → (∀ a w, Con D P W N ι K a w → Q .normal a w) → wpAnyIn F 0 P .any ops Q fuel listed a w
  | 0, listed, t, h, ι, a, w, hr, ht, hd, hk, hq => ⟨hk.1, hq a w ⟨ι, t, h, Env.le_refl _, hr, ht, hd, hk.2⟩⟩
  | fuel + 1, listed, t, h, ι, a, w, hr, ht, hd, hk, hq => by
    refine ⟨fun he => hq a w ⟨ι, t, h, Env.le_refl _, hr, ht, hd, hk.1 he⟩, fun i hi => ?_⟩
    refine wpOpIn_mono ?_ (aStep_sound hF hall hr ht hd (hk.2 i hi))
    rintro a' w' ⟨ι', t', h', h1, h2, h3, h4, h5⟩
    exact aAny_sound hF hall fuel _ h2 h3 h4 h5 fun a w hc => hq a w (hc.mono h1)

theorem least {p : Nat → Prop} (h : ∃ n, p n) : ∃ n, p n ∧ ∀ m, p m → n ≤ m := by
  obtain ⟨n, hn⟩ := h
  induction n using Nat.strongRecOn with
  | _ n ih =>
    by_cases hex : ∃ m, m < n ∧ p m
    · obtain ⟨m, hm, hp⟩ := hex; exact ih m hm hp
    · exact ⟨n, hn, fun m hm => Nat.le_of_not_lt fun hlt => hex ⟨m, hlt, hm⟩⟩

/-- A block that no abstract one stands for is turned. -/
theorem HRel.away {ι : Env} {h : H} {w w' : World} (hr : HRel P W ι h w) {lb : Nat} (hB : W.heap.size ≤ lb) (hsz : w'.heap.size = w.heap.size) (hkeep : ∀ c, c ≠ lb → w'.heap[c]? = w.heap[c]?)
    (hos : w'.os = w.os) (htape : w'.tape = w.tape) (hout : w'.output = w.output) (hno : ∀ c oc lc, h c = some oc → ι c = some lc → oc.ro = false → lc.b ≠ lb) (hnm : ∀ ces clock, w'.heap[lb]? ≠ some (.map ces clock)) : HRel P W ι h w' := by
  refine ⟨hr.nxt, hr.z0, hr.z1, ⟨hos.trans hr.below.os, htape.trans hr.below.tape, hout.trans hr.below.output, by rw [hsz]; exact hr.below.size, fun k hk => by rw [hkeep k (by omega)]; exact hr.below.block k hk⟩,
    fun b l hb => by rw [hsz]; exact hr.inb b l hb, fun b o hb => ?_, hr.sep⟩
  obtain ⟨l, hl, ho⟩ := hr.obj b o hb
  refine ⟨l, hl, ho.keep (Env.le_refl _) ?_ fun m lm hm => ?_⟩
  · refine hkeep _ fun he => ?_
    by_cases hx : o.ro = false
    · exact hno b o l hb hl hx he
    · cases o with
      | cells cs E m => cases m with
        | ro =>
          obtain ⟨_, _, _, _, _, _, h3, _⟩ := ho
          have := h3 rfl; omega
        | _ => simp [AObj.ro] at hx
      | _ => simp [AObj.ro] at hx
  · by_cases he : lm.b = lb
    · exact .inr fun ces' clock' hc => absurd (he ▸ hc) (hnm _ _)
    · exact .inl (hkeep _ he)

theorem marks_list (l : List Nat) : (l.map fun n : Nat => Value.int .u64 (n : Int)).filterMap (fun | .int _ n => some n.toNat | _ => none) = l := by
  induction l with
  | nil => rfl
  | cons n l ih => simp only [List.map_cons, List.filterMap_cons, ih]; rfl
theorem marks_add (v : Value) (d : Nat) : marks (addMark v d) = d :: marks v := marks_list (d :: marks v)

theorem loop_sound {D : Option (List Deferred)} {c : Code} {t : T} {h : H} {ι : Env} {a : Act} {w : World} {Q : Exit → T → H → Prop}
    (ih : ∀ {Q : Exit → T → H → Prop} {t : T} {h : H} {ι : Env} {a : Act} {w : World}, HRel P W ι h w → TRel ι N t a.tmps → DR D ι (t N) a.defers → awp P N c Q t h → c.wpIn F 0 P (ConE D P W N ι Q) a w)
    (hr : HRel P W ι h w) (ht : TRel ι N t a.tmps) (hd : DR D ι (t N) a.defers) (hk : sloop (fun t h K => awp P N c (athen K Q) t h) t h) : (Code.loop c).wpIn F 0 P (ConE D P W N ι Q) a w := by
  obtain ⟨I, ⟨n, hI⟩, hround⟩ := hk
  let p : Act → World → Nat → Prop := fun a w n => ∃ ι' t h, Env.le ι ι' ∧ HRel P W ι' h w ∧ TRel ι' N t a.tmps ∧ DR D ι' (t N) a.defers ∧ I n t h
  have hcl : ∀ a w, ∃ m, (∃ n, p a w n) → p a w m ∧ ∀ k, p a w k → m ≤ k := fun a w => by
    by_cases hx : ∃ n, p a w n
    · obtain ⟨m, hm⟩ := least hx; exact ⟨m, fun _ => hm⟩
    · exact ⟨0, fun h => absurd h hx⟩
  let μ : Act → World → Nat := fun a w => (hcl a w).choose
  have hμ : ∀ a w, (∃ n, p a w n) → p a w (μ a w) ∧ ∀ k, p a w k → μ a w ≤ k := fun a w => (hcl a w).choose_spec
  refine wpIn_loop (fun a w => ∃ n, p a w n) μ ⟨n, ι, t, h, Env.le_refl _, hr, ht, hd, hI⟩ ?_
  intro a1 w1 hp
  obtain ⟨⟨ι1, t1, h1, g1, g2, g3, g4, g5⟩, _⟩ := hμ a1 w1 hp
  refine wpIn_mono (ih g2 g3 g4 (hround _ _ _ g5)) ?_
  intro e a2 w2 hc
  cases e with
  | normal =>
    obtain ⟨ι2, t2, h2, k1, k2, k3, k4, m, hm, hI2⟩ := hc
    have hp2 : p a2 w2 m := ⟨ι2, t2, h2, Env.le_trans g1 k1, k2, k3, k4, hI2⟩
    exact ⟨⟨m, hp2⟩, Nat.lt_of_le_of_lt ((hμ a2 w2 ⟨m, hp2⟩).2 m hp2) hm⟩
  | exit id => exact Con.mono g1 hc
  | goto l => exact Con.mono g1 hc
  | ret => exact Con.mono g1 hc
  | panic ch => exact Con.mono g1 hc
  | outgrown => exact Con.mono g1 hc

theorem rangeFunc_sound {D : Option (List Deferred)} (hD : D = none) {g : Operand} {ps : Array Tmp} {assign body : Code} {t : T} {h : H} {ι : Env} {a : Act} {w : World} {Q : Exit → T → H → Prop} (hF : Wide F) (hro : F.round = none) (hg : okOperand N g = true)
    (hr : HRel P W ι h w) (ht : TRel ι N t a.tmps) (hd : DR D ι (t N) a.defers) (hk : awp P N (.rangeFunc g ps assign body) Q t h) : (Code.rangeFunc g ps assign body).wpIn F 0 P (ConE D P W N ι Q) a w := by
  subst hD
  simp only [awp] at hk
  obtain ⟨d, h2d, hd1, hhd⟩ := hr.fresh
  -- the block for deferred calls
  have hr1 : HRel P W (ι.set d ⟨w.heap.size, 0, 0⟩) (upd h d .defer) (w.alloc (.deferred (some []))) :=
    hr.new h2d hd1 ⟨hr.below.size, rfl, alloc_get_new w _⟩
  have hle1 := Env.le_set (ι := ι) ⟨w.heap.size, 0, 0⟩ hd1
  obtain ⟨l, h2l, hl1, hhl⟩ := hr1.fresh
  have hld : l ≠ d := by rintro rfl; rw [Env.set_same] at hl1; cases hl1
  have hhl' : h l = none := by rw [upd_ne _ _ hld] at hhl; exact hhl
  let w1 := w.alloc (.deferred (some []))
  let w2 : Nat → World := fun fn => w1.alloc (.loop { state := .ready, pending := none, fn, tmps := a.tmps, params := ps, assign, body, defers := w.heap.size })
  have hs1 : w1.heap.size = w.heap.size + 1 := by simp [w1]
  let ι2 := (ι.set d ⟨w.heap.size, 0, 0⟩).set l ⟨w1.heap.size, 0, 0⟩
  have hle2 : Env.le (ι.set d ⟨w.heap.size, 0, 0⟩) ι2 := Env.le_set _ hl1
  have hr2 : ∀ fn, HRel P W ι2 (upd (upd h d .defer) l (.loop .ready none t N ps assign body)) (w2 fn) := fun fn =>
    hr1.new h2l hl1 ⟨hr1.below.size, rfl, _, alloc_get_new w1 _, rfl, rfl, (ht.mono hle1).mono hle2, rfl, rfl, rfl⟩
  have hkk := hk l d h2l h2d hld hhl' hhd
  have hgv := operand_rel ht hg
  unfold o_rangeCall at hkk
  split at hkk
  · rename_i f first captured hv
    obtain ⟨hb, hspec⟩ := hkk
    rw [hv] at hgv
    have hc := hgv.cell rfl
    generalize hce : a.eval g = cg at hc
    cases hc with
    | s hc => cases hc
    | func f q1 q2 =>
      rename_i first' captured'
      refine wpIn_rangeFunc fun fn _ => ⟨w1.heap.size, [{ target := .collected w.heap.size, args := #[] }], w2 fn, { target := .fn (.func f) captured', args := first' ++ #[.func (.yield w1.heap.size) #[] #[]] }, w2 fn, f, first' ++ #[.func (.yield w1.heap.size) #[] #[]] ++ captured', w2 fn, ?_, ?_, ?_, ?_, hF.depth, ?_⟩
      · rw [hro, hs1]; exact run_enterLoop_outer fn a.tmps ps assign body
      · have hcst : ∀ v, a.eval (.const v) = v := fun _ => rfl
        simp [resolve, hce, Deferred.ofValue, hcst]
      · intro f' _; exact hF.fn f'
      · simp [invoke, hasBody_run hb]
      · have hargs : All2 (ARel ι2) (first.toList ++ [Value.func (.yield l) #[] #[]] ++ captured.toList) (first' ++ #[Value.func (.yield w1.heap.size) #[] #[]] ++ captured').toList := by
          have m1 : All2 (ARel ι2) first.toList first'.toList := q1.mono fun _ _ h => .c (.s ((h.mono hle1).mono hle2))
          have m2 : All2 (ARel ι2) captured.toList captured'.toList := q2.mono fun _ _ h => .c (.s ((h.mono hle1).mono hle2))
          have m3 : ARel ι2 (.func (.yield l) #[] #[]) (.func (.yield w1.heap.size) #[] #[]) := .c (.yield (Env.set_same _ _ _))
          simpa using (m1.append (.cons m3 .nil)).append m2
        refine hF.calls ((hspec W ι2 (w2 fn) _ (hr2 fn) hargs).mono ?_)
        rintro e w3 ⟨v, cv, ι3, h3, rfl, k1, k2, k3, k4⟩
        have hl3 : ι3 l = some ⟨w1.heap.size, 0, 0⟩ := k1 _ _ (Env.set_same _ _ _)
        have hd3 : ι3 d = some ⟨w.heap.size, 0, 0⟩ := k1 _ _ (hle2 _ _ (Env.set_same _ _ _))
        have hle3 : Env.le ι ι3 := Env.le_trans hle1 (Env.le_trans hle2 k1)
        have fin : ∀ st pend t' N' ps' as' bo', h3 l = some (.loop st pend t' N' ps' as' bo') → st ≠ .busy → ∃ w4, (Instr.endLoop w1.heap.size).run P w3 = .ok pend w4 ∧ HRel P W ι3 (del h3 l) w4 := by
          intro st pend t' N' ps' as' bo' hh hst
          obtain ⟨hB, _, L, g1, rfl, rfl, _⟩ := k2.obj' hh hl3
          have hlt := k2.inb l _ hl3
          refine ⟨_, run_endLoop g1 hst, (k2.drop (h' := del h3 l) fun c oc hc => by unfold del at hc; split at hc; · cases hc
                                                                                     · exact hc).away hB (by simp [World.putObj]) (fun c hc => by simp [World.putObj, Array.getElem?_setIfInBounds_ne (Ne.symm hc)]) rfl rfl rfl ?_ ?_⟩
          · intro c oc lc hc hlc hx he
            have hcl : c ≠ l := by rintro rfl; rw [del_same] at hc; cases hc
            rw [del_ne _ hcl] at hc
            exact k2.sep c l oc _ lc _ hcl hc hh hlc hl3 hx rfl he
          · intro ces clock he
            have : (w3.putObj w1.heap.size (.loop { L with state := .exhausted })).heap[w1.heap.size]? = some (.loop { L with state := .exhausted })   := setBlk_same _ _ hlt
            rw [this] at he; cases he
        have con : ∀ (e' : Exit) w4, HRel P W ι3 (del h3 l) w4 → Q e' (tset t N (addMark (t N) d)) (del h3 l) → ConE none P W N ι Q e' { a with defers := [{ target := .collected w.heap.size, args := #[] }] ++ a.defers } w4 := by
          intro e' w4 hr4 hq
          refine ⟨ι3, _, _, hle3, hr4, ?_, ?_, hq⟩
          · refine ⟨ht.1, fun i hi => ?_⟩
            have : Nat.beq i N = false := Bool.eq_false_iff.2 fun hq => by have := Nat.eq_of_beq_eq_true hq; omega
            simp only [tset, this, cond_false]
            exact (ht.2 i hi).mono hle3
          · have hb : Nat.beq N N = true := Nat.beq_refl N
            simp only [tset, hb, cond_true]
            show DRel ι3 (addMark (t N) d) _
            unfold DRel
            rw [marks_add]
            exact .cons ⟨_, hd3, rfl⟩ (DRel.mono hd hle3)
        split at k4
        · rename_i hh
          obtain ⟨w4, q3, q4⟩ := fin _ _ _ _ _ _ _ hh (by simp)
          exact ⟨none, w4, q3, con _ _ q4 k4⟩
        · rename_i hh
          obtain ⟨w4, q3, q4⟩ := fin _ _ _ _ _ _ _ hh (by simp)
          exact ⟨some .ret, w4, q3, wpIn_ret (con _ _ q4 k4)⟩
        · rename_i id _ _ _ _ _ hh
          obtain ⟨w4, q3, q4⟩ := fin _ _ _ _ _ _ _ hh (by simp)
          exact ⟨some (.exit id), w4, q3, wpIn_exit (con _ _ q4 k4)⟩
        · exact k4.elim
  · exact hkk.elim

theorem awp_sound {D : Option (List Deferred)} (hm : P.follows .mixedOrders = true) (hF : Wide F) (rd : Bool) (hrd : rd = false → F.round = none ∧ D = none) : ∀ (c : Code), okCode N rd c = true →
    ∀ {Q : Exit → T → H → Prop} {t : T} {h : H} {ι : Env} {a : Act} {w : World}, HRel P W ι h w → TRel ι N t a.tmps → DR D ι (t N) a.defers → awp P N c Q t h → c.wpIn F 0 P (ConE D P W N ι Q) a w := by
  intro c
  induction c with
  | skip => intro _ Q t h ι a w hr ht hd hk; exact wpIn_skip ⟨ι, t, h, Env.le_refl _, hr, ht, hd, hk⟩
  | label l => intro _ Q t h ι a w hr ht hd hk; exact wpIn_label ⟨ι, t, h, Env.le_refl _, hr, ht, hd, hk⟩
  | exit id => intro _ Q t h ι a w hr ht hd hk; exact wpIn_exit ⟨ι, t, h, Env.le_refl _, hr, ht, hd, hk⟩
  | ret => intro _ Q t h ι a w hr ht hd hk; exact wpIn_ret ⟨ι, t, h, Env.le_refl _, hr, ht, hd, hk⟩
  | goto l => intro hok; cases hok
  | refuse s => intro hok; cases hok
  | scope c ih => intro hok; cases hok
  | region id ops draw =>
    intro hok Q t h ι a w hr ht hd hk
    cases draw with
    | false => exact wpIn_region (aOps_sound hF hok _ hr ht hd hk fun a w hc => hc)
    | true => exact wpIn_region_any hm (aAny_sound hF hok _ _ (hr.drawn _) ht hd hk fun a w hc => hc)
  | seq x y ihx ihy =>
    intro hok Q t h ι a w hr ht hd hk
    simp only [okCode, Bool.and_eq_true] at hok
    refine wpIn_seq (wpIn_mono (ihx hok.1 hr ht hd hk) ?_)
    intro e a1 w1 hc
    cases e with
    | normal =>
      obtain ⟨ι1, t1, h1, k1, k2, k3, k4, k5⟩ := hc
      exact wpIn_mono (ihy hok.2 k2 k3 k4 k5) fun e a w hc => Con.mono k1 hc
    | _ => exact hc
  | cond c x y ihx ihy =>
    intro hok Q t h ι a w hr ht hd hk
    simp only [okCode, Bool.and_eq_true] at hok
    have hc := operand_rel ht hok.1.1
    have hk' : o_if (aev t c) (awp P N x Q t h) (awp P N y Q t h) := hk
    unfold o_if at hk'
    split at hk'
    · rename_i b hb
      rw [hb] at hc
      refine wpIn_cond hc.bool ?_
      cases b with
      | true => exact ihx hok.1.2 hr ht hd hk'
      | false => exact ihy hok.2 hr ht hd hk'
    · exact hk'.elim
  | block id c ih =>
    intro hok Q t h ι a w hr ht hd hk
    refine wpIn_block (wpIn_mono (ih hok hr ht hd hk) ?_)
    intro e a1 w1 hc
    cases e with
    | exit j =>
      simp only [ConE, ablock] at hc
      simp only [Exit.inBlock]
      by_cases hj : j = id
      · subst hj
        rw [if_pos rfl]
        rw [Nat.beq_refl, cond_true] at hc
        exact hc
      · rw [if_neg hj]
        have : Nat.beq j id = false := Bool.eq_false_iff.2 fun hq => hj (Nat.eq_of_beq_eq_true hq)
        rw [this, cond_false] at hc
        exact hc
    | _ => exact hc
  | loop c ih =>
    intro hok Q t h ι a w hr ht hd hk
    exact loop_sound (fun hr ht hd hk => ih hok hr ht hd hk) hr ht hd hk
  | rangeFunc g ps assign body =>
    intro hok Q t h ι a w hr ht hd hk
    simp only [okCode, Bool.and_eq_true, Bool.not_eq_true'] at hok
    exact rangeFunc_sound (hrd hok.1.1.1.1).2 hF (hrd hok.1.1.1.1).1 hok.1.1.1.2 hr ht hd hk

end
end Go.Proofs.YtbmfblmebhobiaaGreat.AM

/-
  A function's contract over the abstract memory, out of its body; a round's; what follows for the model's calls.
-/
set_option linter.unusedSimpArgs false
set_option linter.unusedVariables false
namespace Go.Proofs.YtbmfblmebhobiaaGreat.AM
open Go.RowKit

section
variable {P : Program} {W : World}

theorem tinit_rel {ι : Env} {args : List Value} {cargs : Array Value} {N : Nat} (ha : All2 (ARel ι) args cargs.toList) (hN : args.length ≤ N) :
    TRel ι N (tinit args) (cargs ++ Array.replicate (N - cargs.size) undef) := by
  have hl : args.length = cargs.size := by simpa using ha.length
  refine ⟨by simp; omega, fun i hi => ?_⟩
  unfold tinit
  simp only [List.getD_eq_getElem?_getD, Array.getD_eq_getD_getElem?]
  by_cases hlt : i < args.length
  · obtain ⟨cv, h1, h2⟩ := ha.get (List.getElem?_eq_getElem hlt)
    have h1' : cargs[i]? = some cv := by simpa using h1
    rw [List.getElem?_eq_getElem hlt, Array.getElem?_append_left (by omega), h1']
    exact .a h2
  · rw [List.getElem?_eq_none (by omega), Array.getElem?_append_right (by omega)]
    have : (Array.replicate (N - cargs.size) undef)[i - cargs.size]? = some undef := by
      rw [Array.getElem?_replicate, if_pos (by omega)]
    rw [this]
    exact VRel.undef

theorem mapM_tmp (rs : List Nat) (tmps : Array Value) (w : World) : (rs.mapM (fun r => (pure (tmps.getD r undef) : Sem Value))).run P w = .ok (rs.map fun r => tmps.getD r undef) w := by
  induction rs with
  | nil => rfl
  | cons r rs ih =>
    rw [List.mapM_cons]
    simp only [Sem.run_bind, Sem.run_pure, Result.andThen_ok, ih, List.map_cons]
theorem run_results {fn : Func} {rs : List Nat} (hrs : fn.results = (rs.map ResultVar.tmp).toArray) (tmps : Array Value) (w : World) :
    (results fn tmps).run P w = .ok (match rs.map fun r => tmps.getD r undef with | [v] => v | vs => .tuple vs.toArray) w := by
  unfold results
  have h1 : (Array.mapM (fun x : ResultVar => match x with | .tmp t => (pure (tmps.getD t undef) : Sem Value) | .cell a t => do loadVar t (← asAddr (tmps.getD a undef))) fn.results).run P w = Result.ok (rs.map fun r => tmps.getD r undef).toArray w := by
    rw [Array.mapM_eq_mapM_toList, hrs]
    simp only [List.mapM_map, Function.comp_def]
    simp
  rw [Sem.run_bind]
  refine (congrArg (fun r => Result.andThen r _) h1).trans ?_
  simp only [Result.andThen_ok, Sem.run_pure]
  cases rs with
  | nil => simp
  | cons r rs => cases rs with
    | nil => simp
    | cons r' rs => simp

theorem leaves_marks {fn : Func} {tmps : Array Value} {R : Ending → World → Prop} {ι : Env} : ∀ (ds : List Nat) (dfs : List Deferred) {h : H} {w : World}, All2 (MarkIs ι) ds dfs → HRel P W ι h w → (∀ d ∈ ds, h d = some .defer) → ds.Nodup →
    (∀ w, HRel P W ι (fun b => if b ∈ ds then none else h b) w → LeavesIn Fence.wide 0 P fn tmps R [] .returning w) → LeavesInM Fence.wide 0 P fn tmps R dfs .returning w
  | [], dfs, h, w, hm, hr, _, _, hk => by
    cases hm
    exact hk w (by simpa using hr)
  | d :: ds, dfs, h, w, hm, hr, hd, hn, hk => by
    cases hm with
    | cons hm hms =>
      rename_i df dfs
      obtain ⟨l, hl, rfl⟩ := hm
      refine ⟨by simp, .inl ⟨l.b, setBlk w l.b (.deferred none), rfl, ?_, ?_⟩⟩
      · obtain ⟨_, _, h1⟩ := hr.obj' (hd d (by simp)) hl
        exact run_takeDeferred h1
      · obtain ⟨hB, _, h1⟩ := hr.obj' (hd d (by simp)) hl
        have hnd := List.nodup_cons.1 hn
        have hlt := hr.inb d l hl
        have hr' : HRel P W ι (del h d) (setBlk w l.b (.deferred none)) := by
          refine (hr.drop (h' := del h d) fun c oc hc => ?_).away hB (setBlk_size _ _ _) (fun c hc => setBlk_ne _ _ hc) rfl rfl rfl ?_ ?_
          · unfold del at hc; split at hc
            · cases hc
            · exact hc
          · intro c oc lc hc hlc hx he
            have hcd : c ≠ d := by rintro rfl; rw [del_same] at hc; cases hc
            rw [del_ne _ hcd] at hc
            exact hr.sep c d oc _ lc l hcd hc (hd d (by simp)) hlc hl hx rfl he
          · intro ces clock he
            rw [setBlk_same _ _ hlt] at he; cases he
        refine leaves_marks ds dfs hms hr' (fun x hx => ?_) hnd.2 fun w' hw' => hk w' ?_
        · rw [del_ne _ (by rintro rfl; exact hnd.1 hx)]; exact hd x (by simp [hx])
        · have e : (fun b => if b ∈ ds then none else del h d b) = fun b => if b ∈ d :: ds then none else h b := by
            funext b
            by_cases hb : b = d
            · subst hb; simp [del_same]
            · simp [hb, del_ne _ hb]
          rw [e] at hw'; exact hw'

theorem retV_rel {ι ι' : Env} {N : Nat} {rs : List Nat} {Q : Value → H → Prop} {t : T} {h : H} {tmps : Array Value} {w : World} (hle : Env.le ι ι') (hr : HRel P W ι' h w) (ht : TRel ι' N t tmps) (hN : rs.all (fun r => Nat.blt r N) = true) (hk : retV rs Q t h) :
    Post P W ι Q (.returned (match rs.map fun r => tmps.getD r undef with | [v] => v | vs => .tuple vs.toArray)) w := by
  have tup : ∀ rs : List Nat, rs.all (fun r => Nat.blt r N) = true → rs.all (fun r => boxV (t r)) = true → All2 (ARel ι') (rs.map t) (rs.map fun r => tmps.getD r undef) := by
    intro rs
    induction rs with
    | nil => intro _ _; exact .nil
    | cons r rs ih =>
      intro h1 h2
      simp only [List.all_cons, Bool.and_eq_true] at h1 h2
      exact .cons ((ht.2 r (blt_lt h1.1)).toA h2.1) (ih h1.2 h2.2)
  unfold retV at hk
  split at hk
  · rename_i r
    simp only [List.all_cons, List.all_nil, Bool.and_true] at hN
    exact ⟨t r, _, ι', h, rfl, hle, hr, ht.2 r (blt_lt hN), hk⟩
  · rename_i hns
    cases hb : rs.all (fun r => boxV (t r)) with
    | false => rw [hb, cond_false] at hk; exact hk.elim
    | true =>
      rw [hb, cond_true] at hk
      refine ⟨.tuple (rs.map t).toArray, _, ι', h, rfl, hle, hr, ?_, hk⟩
      have := VRel.tuple (ι := ι') (xs := (rs.map t).toArray) (ys := (rs.map fun r => tmps.getD r undef).toArray) (by simpa using tup rs hN hb)
      cases rs with
      | nil => exact this
      | cons r rs => cases rs with
        | nil => exact absurd rfl (hns r)
        | cons r' rs => exact this

theorem spec_of_body (hm : P.follows .mixedOrders = true) {f : FuncId} {fn : Func} {c : Code} {rs : List Nat} {N : Nat} {args : List Value} {h : H} {Q : Value → H → Prop} (hf : P.funcs[f]? = some fn) (hb : fn.body = some c)
    (hrs : fn.results = (rs.map ResultVar.tmp).toArray) (hn : fn.ntmps = N) (hok : okCode N false c = true) (hrN : rs.all (fun r => Nat.blt r N) = true) (hlen : args.length ≤ N) (hk : awp P N c (bodyQ N rs Q) (tinit args) h) : Spec P f args h Q := by
  intro W ι w cargs hr ha
  subst hn
  refine (callsIn_wide (n := 0)).1 (callsIn_of_wp_marks hf hb trivial ?_)
  have h0 : tinit args fn.ntmps = undef := by simp [tinit, hlen]
  have hmk : marks undef = [] := rfl
  refine wpIn_mono (awp_sound (D := none) hm (.inl rfl) false (fun _ => ⟨rfl, rfl⟩) c hok hr (tinit_rel ha hlen) (by rw [h0]; exact .nil) hk) ?_
  intro e a' w' hc
  have fin : ∀ t' h' ι', Env.le ι ι' → HRel P W ι' h' w' → TRel ι' fn.ntmps t' a'.tmps → DRel ι' (t' fn.ntmps) a'.defers → retQ fn.ntmps rs Q t' h' → LeavesInM Fence.wide 0 P fn a'.tmps (Post P W ι Q) a'.defers .returning w' := by
    intro t' h' ι' k1 k2 k3 k4 k5
    unfold retQ at k5
    split at k5
    · rename_i hmk'
      unfold DRel at k4
      rw [hmk'] at k4
      generalize a'.defers = dfs at *
      cases k4
      exact ⟨_, run_results hrs _ _, retV_rel k1 k2 k3 hrN k5⟩
    · obtain ⟨k6, k7, k8⟩ := k5
      exact leaves_marks _ _ k4 k2 k7 k6 fun w'' hw'' => ⟨_, run_results hrs _ _, retV_rel k1 hw'' k3 hrN k8⟩
  cases e with
  | normal => obtain ⟨ι', t', h', k1, k2, k3, k4, k5⟩ := hc; exact fin t' h' ι' k1 k2 k3 k4 k5
  | ret => obtain ⟨ι', t', h', k1, k2, k3, k4, k5⟩ := hc; exact fin t' h' ι' k1 k2 k3 k4 k5
  | exit id => obtain ⟨_, _, _, _, _, _, _, k5⟩ := hc; exact k5.elim
  | goto l => obtain ⟨_, _, _, _, _, _, _, k5⟩ := hc; exact k5.elim
  | panic ch => obtain ⟨_, _, _, _, _, _, _, k5⟩ := hc; exact k5.elim
  | outgrown => obtain ⟨_, _, _, _, _, _, _, k5⟩ := hc; exact k5.elim

/-- The same for a body without a range over a function. -/
def plainQ (rs : List Nat) (Q : Value → H → Prop) : Exit → T → H → Prop
  | .normal, t, h | .ret, t, h => retV rs Q t h
  | _, _, _ => False
theorem spec_plain (hm : P.follows .mixedOrders = true) {f : FuncId} {fn : Func} {c : Code} {rs : List Nat} {N : Nat} {args : List Value} {h : H} {Q : Value → H → Prop} (hf : P.funcs[f]? = some fn) (hb : fn.body = some c)
    (hrs : fn.results = (rs.map ResultVar.tmp).toArray) (hn : fn.ntmps = N) (hok : okCode N true c = true) (hrN : rs.all (fun r => Nat.blt r N) = true) (hlen : args.length ≤ N) (hk : awp P N c (plainQ rs Q) (tinit args) h) : Spec P f args h Q := by
  intro W ι w cargs hr ha
  subst hn
  refine (callsIn_wide (n := 0)).1 (callsIn_of_wp hf hb trivial ?_)
  refine wpIn_mono (awp_sound (D := some []) hm (.inl rfl) true (fun h => by cases h) c hok hr (tinit_rel ha hlen) rfl hk) ?_
  intro e a' w' hc
  have fin : ∀ t' h' ι', Env.le ι ι' → HRel P W ι' h' w' → TRel ι' fn.ntmps t' a'.tmps → a'.defers = [] → retV rs Q t' h' → a'.defers = [] ∧ ∃ v, (results fn a'.tmps).run P w' = .ok v w' ∧ Post P W ι Q (.returned v) w' := by
    intro t' h' ι' k1 k2 k3 k4 k5
    exact ⟨k4, _, run_results hrs _ _, retV_rel k1 k2 k3 hrN k5⟩
  cases e with
  | normal => obtain ⟨ι', t', h', k1, k2, k3, k4, k5⟩ := hc; exact fin t' h' ι' k1 k2 k3 k4 k5
  | ret => obtain ⟨ι', t', h', k1, k2, k3, k4, k5⟩ := hc; exact fin t' h' ι' k1 k2 k3 k4 k5
  | exit id => obtain ⟨_, _, _, _, _, _, _, k5⟩ := hc; exact k5.elim
  | goto l => obtain ⟨_, _, _, _, _, _, _, k5⟩ := hc; exact k5.elim
  | panic ch => obtain ⟨_, _, _, _, _, _, _, k5⟩ := hc; exact k5.elim
  | outgrown => obtain ⟨_, _, _, _, _, _, _, k5⟩ := hc; exact k5.elim

/-! ### A round -/
theorem tround_rel {ι : Env} {N : Nat} {t : T} {tmps : Array Value} (ht : TRel ι N t tmps) : ∀ (ps : List Tmp) (args : List Value) (cargs : List Value), All2 (ARel ι) args cargs → ps.all (fun p => Nat.blt p N) = true →
    TRel ι N ((ps.zip args).foldl (fun t p => tset t p.1 p.2) t) ((ps.zip cargs).foldl (fun tmps p => tmps.setIfInBounds p.1 p.2) tmps) := by
  intro ps
  induction ps generalizing t tmps with
  | nil => intro args cargs _ _; exact ht
  | cons p ps ih =>
    intro args cargs ha hp
    simp only [List.all_cons, Bool.and_eq_true] at hp
    cases ha with
    | nil => exact ht
    | cons hv ha =>
      simp only [List.zip_cons_cons, List.foldl_cons]
      refine ih ?_ _ _ ha hp.2
      exact TRel.put (a := { tmps, defers := [] }) ht (d := some p) hp.1 (.a hv)

/-- How a round leaves: the record is turned. -/
def roundQ (l : Nat) (t : T) (N : Nat) (ps : Array Tmp) (assign body : Code) (Q : Value → H → Prop) : Exit → T → H → Prop
  | .normal, _, h => h l = some (.loop .busy none t N ps assign body) ∧ Q (.bool true) (upd h l (.loop .ready none t N ps assign body))
  | .ret, _, h => h l = some (.loop .busy none t N ps assign body) ∧ Q (.bool false) (upd h l (.loop .done (some .ret) t N ps assign body))
  | .exit id, _, h => h l = some (.loop .busy none t N ps assign body) ∧ Q (.bool false) (upd h l (.loop .done (some (.exit id)) t N ps assign body))
  | _, _, _ => False

theorem yspec_of (hm : P.follows .mixedOrders = true) {r : Nat} {t : T} {N : Nat} {ps : Array Tmp} {assign body : Code} {args : List Value} {h : H} {Q : Value → H → Prop} (hl : h r = some (.loop .ready none t N ps assign body))
    (hps : ps.toList.all (fun p => Nat.blt p N) = true) (hlen : ps.size = args.length) (hoka : okCode N true assign = true) (hokb : okCode N true body = true)
    (hk : awp P N assign (athen (fun t1 h1 => h1 r = some (.loop .ready none t N ps assign body) ∧
      awp P N body (roundQ r t N ps assign body Q) t1 (upd h1 r (.loop .busy none t N ps assign body))) fun _ _ _ => False) (tround N t ps args) h) : YSpec P r args h Q := by
  intro W ι w cargs l hr hlι ha
  obtain ⟨hB, _, L, g1, g2, g3, g4, rfl, rfl, rfl⟩ := hr.obj' hl hlι
  have hcl : cargs.size = args.length := by simpa using ha.length.symm
  refine ⟨L, g1, by omega, ?_⟩
  have hF : Wide (Fence.wide.inRound l.b) := .inr ⟨_, rfl⟩
  refine roundIn_of_wpIn trivial ?_
  have ht0 : TRel ι N (tround N t L.params args) ((L.params.zip cargs).foldl (fun tmps (t, a) => tmps.setIfInBounds t a) L.tmps) := by
    have h1 := tround_rel g4 L.params.toList args cargs.toList ha hps
    have e : (L.params.zip cargs).foldl (fun tmps (t, a) => tmps.setIfInBounds t a) L.tmps = (L.params.toList.zip cargs.toList).foldl (fun tmps p => tmps.setIfInBounds p.1 p.2) L.tmps := by
      rw [← Array.foldl_toList, Array.toList_zip]
    rw [e]
    refine ⟨h1.1, fun i hi => ?_⟩
    have : Nat.beq i N = false := Bool.eq_false_iff.2 fun hq => by have := Nat.eq_of_beq_eq_true hq; omega
    unfold tround
    simp only [tset, this, cond_false]
    exact h1.2 i hi
  have hd0 : DRel ι (tround N t L.params args N) [] := by
    have : tround N t L.params args N = undef := by simp [tround, tset, Nat.beq_refl]
    rw [this]; exact .nil
  have turn : ∀ {ι1 : Env} {h1 : H} {w1 : World} {st st' : LoopState} {pd pd' : Option Code}, Env.le ι ι1 → HRel P W ι1 h1 w1 → h1 r = some (.loop st pd t N L.params L.assign L.body) →
      ∃ L1, w1.heap[l.b]? = some (.loop L1) ∧ L1.state = st ∧ HRel P W ι1 (upd h1 r (.loop st' pd' t N L.params L.assign L.body)) (w1.putObj l.b (.loop { L1 with state := st', pending := pd' })) ∧ L1.pending = pd := by
    intro ι1 h1 w1 st st' pd pd' hle hr1 hl1
    obtain ⟨hB1, ho1, L1, q1, q2, q3, q4, q5, q6, q7⟩ := hr1.obj' hl1 (hle _ _ hlι)
    have hlt := hr1.inb r l (hle _ _ hlι)
    refine ⟨L1, q1, q2, ?_, q3⟩
    refine hr1.set hl1 (hle _ _ hlι) rfl (setBlk_size _ _ _) (fun c hc => setBlk_ne _ _ hc) rfl rfl rfl hB ?_ ?_
    · intro ces clock he
      have : (w1.putObj l.b (.loop { L1 with state := st', pending := pd' })).heap[l.b]? = some (.loop { L1 with state := st', pending := pd' }) := setBlk_same _ _ hlt
      rw [this] at he; cases he
    · exact ⟨hB1, ho1, _, setBlk_same _ _ hlt, rfl, rfl, q4, q5, q6, q7⟩
  refine wpIn_mono (awp_sound (D := none) hm hF true (fun h => by cases h) L.assign hoka hr ht0 hd0 hk) ?_
  intro e a1 w1 hc
  cases e with
  | normal =>
    obtain ⟨ι1, t1, h1, k1, k2, k3, k4, k5, k6⟩ := hc
    obtain ⟨L1, q1, q2, q3, q4⟩ := turn (st' := .busy) (pd' := none) k1 k2 k5
    have hL1 : ({ L1 with state := .busy, pending := none } : Loop) = { L1 with state := .busy } := by cases L1; simp only at q4; subst q4; rfl
    rw [hL1] at q3
    refine ⟨_, run_beginRound q1 q2, ?_⟩
    refine wpIn_mono (awp_sound (D := none) hm hF true (fun h => by cases h) L.body hokb q3 k3 k4 k6) ?_
    intro e a2 w2 hc
    cases e with
    | normal =>
      obtain ⟨ι2, t2, h2, m1, m2, m3, m4, m5, m6⟩ := hc
      obtain ⟨L2, p1, p2, p3, p4⟩ := turn (st' := .ready) (pd' := none) (Env.le_trans k1 m1) m2 m5
      exact ⟨_, _, run_endRound none p1, .bool true, .bool true, ι2, _, rfl, Env.le_trans k1 m1, p3, vrel_self rfl, m6⟩
    | ret =>
      obtain ⟨ι2, t2, h2, m1, m2, m3, m4, m5, m6⟩ := hc
      obtain ⟨L2, p1, p2, p3, p4⟩ := turn (st' := .done) (pd' := some .ret) (Env.le_trans k1 m1) m2 m5
      exact ⟨_, _, run_endRound (some .ret) p1, .bool false, .bool false, ι2, _, rfl, Env.le_trans k1 m1, p3, vrel_self rfl, m6⟩
    | exit id =>
      obtain ⟨ι2, t2, h2, m1, m2, m3, m4, m5, m6⟩ := hc
      obtain ⟨L2, p1, p2, p3, p4⟩ := turn (st' := .done) (pd' := some (.exit id)) (Env.le_trans k1 m1) m2 m5
      exact ⟨_, _, run_endRound (some (.exit id)) p1, .bool false, .bool false, ι2, _, rfl, Env.le_trans k1 m1, p3, vrel_self rfl, m6⟩
    | goto l => obtain ⟨_, _, _, _, _, _, _, k5⟩ := hc; exact k5.elim
    | panic ch => obtain ⟨_, _, _, _, _, _, _, k5⟩ := hc; exact k5.elim
    | outgrown => obtain ⟨_, _, _, _, _, _, _, k5⟩ := hc; exact k5.elim
  | exit id => obtain ⟨_, _, _, _, _, _, _, k5⟩ := hc; exact k5.elim
  | ret => obtain ⟨_, _, _, _, _, _, _, k5⟩ := hc; exact k5.elim
  | goto l => obtain ⟨_, _, _, _, _, _, _, k5⟩ := hc; exact k5.elim
  | panic ch => obtain ⟨_, _, _, _, _, _, _, k5⟩ := hc; exact k5.elim
  | outgrown => obtain ⟨_, _, _, _, _, _, _, k5⟩ := hc; exact k5.elim

/-! ### What contracts allow -/
theorem Spec.mono {f : FuncId} {args : List Value} {h : H} {Q Q' : Value → H → Prop} (hs : Spec P f args h Q) (hq : ∀ v h, Q v h → Q' v h) : Spec P f args h Q' :=
  fun W ι w cargs hr ha => (hs W ι w cargs hr ha).mono fun _ _ ⟨v, cv, ι', h', h1, h2, h3, h4, h5⟩ => ⟨v, cv, ι', h', h1, h2, h3, h4, hq _ _ h5⟩
/-- Blocks that nobody will ask for may be let go. -/
theorem Spec.drop {f : FuncId} {args : List Value} {h : H} {Q : Value → H → Prop} (hs : Spec P f args h fun v h' => ∃ h'', (∀ b o, h'' b = some o → h' b = some o) ∧ Q v h'') : Spec P f args h Q :=
  fun W ι w cargs hr ha => (hs W ι w cargs hr ha).mono fun _ _ ⟨v, cv, ι', _, h1, h2, h3, h4, h'', h5, h6⟩ => ⟨v, cv, ι', h'', h1, h2, h3.drop h5, h4, h6⟩
end
end Go.Proofs.YtbmfblmebhobiaaGreat.AM

/-
  Functions whose results lie in memory (named results whose address is taken).
-/
set_option linter.unusedSimpArgs false
set_option linter.unusedVariables false
namespace Go.Proofs.YtbmfblmebhobiaaGreat.AM
open Go.RowKit

def resOf (P : Program) (t : T) (h : H) : ResultVar → Option Value
  | .tmp r => some (t r)
  | .cell a ty => match tySize P ty, t a with
    | some (ag, n), .pointer (some ⟨b, o, none⟩) => bif ag then (match cellsAt h b o n with | some l => some (.agg l.toArray) | none => none) else cellAt h b o
    | _, _ => none
def resAll (P : Program) (t : T) (h : H) : List ResultVar → Option (List Value)
  | [] => some []
  | r :: rs => match resOf P t h r with
    | some v => (match resAll P t h rs with | some l => some (v :: l) | none => none)
    | none => none
def retC (P : Program) (rs : List ResultVar) (Q : Value → H → Prop) (t : T) (h : H) : Prop :=
  match resAll P t h rs with
  | some [v] => Q v h
  | some vs => vs.all boxV = true ∧ Q (.tuple vs.toArray) h
  | none => False
def okRes (N : Nat) : ResultVar → Bool
  | .tmp r => Nat.blt r N
  | .cell a _ => Nat.blt a N
def retCQ (P : Program) (N : Nat) (rs : List ResultVar) (Q : Value → H → Prop) (t : T) (h : H) : Prop :=
  match marks (t N) with
  | [] => retC P rs Q t h
  | ds => ds.Nodup ∧ (∀ d ∈ ds, h d = some .defer) ∧ retC P rs Q t (fun b => if b ∈ ds then none else h b)
def bodyCQ (P : Program) (N : Nat) (rs : List ResultVar) (Q : Value → H → Prop) : Exit → T → H → Prop
  | .normal, t, h | .ret, t, h => retCQ P N rs Q t h
  | _, _, _ => False

section
variable {P : Program} {W : World}
abbrev resRun (tmps : Array Value) : ResultVar → Sem Value := fun
  | .tmp t => pure (tmps.getD t undef)
  | .cell a t => do loadVar t (← asAddr (tmps.getD a undef))
theorem run_resOf {ι : Env} {N : Nat} {t : T} {h : H} {tmps : Array Value} {w : World} (hr : HRel P W ι h w) (ht : TRel ι N t tmps) {r : ResultVar} {v : Value} (hok : okRes N r = true) (he : resOf P t h r = some v) :
    ∃ cv, (resRun tmps r).run P w = .ok cv w ∧ VRel ι v cv := by
  cases r with
  | tmp r => cases he; exact ⟨_, rfl, ht.2 r (blt_lt hok)⟩
  | cell a ty =>
    simp only [resOf] at he
    split at he
    · rename_i ag n b o hty hta
      have ha := ht.2 a (blt_lt hok)
      rw [hta] at ha
      obtain ⟨l, hl, hca⟩ := ha.ptr
      obtain ⟨i, hi, hn, hag⟩ := tySize_spec hty
      cases ag with
      | true =>
        simp only [cond_true] at he
        split at he
        · rename_i vs hvs
          cases he
          obtain ⟨vs', h1, h2, h3⟩ := read_cells hr hvs hl
          refine ⟨.agg vs'.toArray, ?_, .a (.agg h1)⟩
          have := run_loadCells_list (P := P) w ⟨l.b, l.o + o, none⟩ vs' h3
          rw [← h1.length, h2] at this
          simp [resRun, asAddr, hca, loadVar, hag, run_size hi, hn, this]
        · cases he
      | false =>
        simp only [cond_false] at he
        obtain ⟨v', h1, h2⟩ := read_cell hr he hl
        refine ⟨v', ?_, .a (.c h2)⟩
        simp [resRun, asAddr, hca, loadVar, hag, h1]
    · cases he
theorem run_resAll {ι : Env} {N : Nat} {t : T} {h : H} {tmps : Array Value} {w : World} (hr : HRel P W ι h w) (ht : TRel ι N t tmps) : ∀ {rs : List ResultVar} {vs : List Value}, rs.all (okRes N) = true → resAll P t h rs = some vs →
    ∃ cvs, (rs.mapM (resRun tmps)).run P w = .ok cvs w ∧ All2 (VRel ι) vs cvs
  | [], vs, _, he => by cases he; exact ⟨[], rfl, .nil⟩
  | r :: rs, vs, hok, he => by
    simp only [List.all_cons, Bool.and_eq_true] at hok
    simp only [resAll] at he
    split at he
    · rename_i v hv
      split at he
      · rename_i l hl
        cases he
        obtain ⟨cv, h1, h2⟩ := run_resOf hr ht hok.1 hv
        obtain ⟨cvs, h3, h4⟩ := run_resAll hr ht hok.2 hl
        refine ⟨cv :: cvs, ?_, .cons h2 h4⟩
        rw [List.mapM_cons, Sem.run_bind]
        refine (congrArg (fun q => Result.andThen q _) h1).trans ?_
        simp only [Result.andThen_ok, Sem.run_bind]
        refine (congrArg (fun q => Result.andThen q _) h3).trans ?_
        simp only [Result.andThen_ok, Sem.run_pure]
      · cases he
    · cases he
theorem all2_toA {ι : Env} : ∀ {vs cvs : List Value}, All2 (VRel ι) vs cvs → vs.all boxV = true → All2 (ARel ι) vs cvs
  | _, _, .nil, _ => .nil
  | _, _, .cons h t, hb => by
    simp only [List.all_cons, Bool.and_eq_true] at hb
    exact .cons (h.toA hb.1) (all2_toA t hb.2)
theorem retC_run {fn : Func} {ι ι' : Env} {N : Nat} {Q : Value → H → Prop} {t : T} {h : H} {tmps : Array Value} {w : World} (hle : Env.le ι ι') (hr : HRel P W ι' h w) (ht : TRel ι' N t tmps) (hN : fn.results.toList.all (okRes N) = true) (hk : retC P fn.results.toList Q t h) :
    ∃ cv, (results fn tmps).run P w = .ok cv w ∧ Post P W ι Q (.returned cv) w := by
  unfold retC at hk
  cases hv : resAll P t h fn.results.toList with
  | none => rw [hv] at hk; exact hk.elim
  | some vs =>
    rw [hv] at hk
    obtain ⟨cvs, h1, h2⟩ := run_resAll hr ht hN hv
    have hrun : (results fn tmps).run P w = .ok (if hh : cvs.toArray.size = 1 then cvs.toArray[0] else .tuple cvs.toArray) w := by
      unfold results
      rw [Sem.run_bind]
      have h3 : (Array.mapM (resRun tmps) fn.results).run P w = Result.ok cvs.toArray w := by
        rw [Array.mapM_eq_mapM_toList]
        simp [h1]
      refine (congrArg (fun q => Result.andThen q _) h3).trans ?_
      simp only [Result.andThen_ok, Sem.run_pure]
    refine ⟨_, hrun, ?_⟩
    cases h2 with
    | nil => exact ⟨.tuple #[], _, ι', h, rfl, hle, hr, .tuple .nil, hk.2⟩
    | cons h2 h2s => cases h2s with
      | nil => exact ⟨_, _, ι', h, rfl, hle, hr, by simpa using h2, hk⟩
      | cons h3 h3s =>
        refine ⟨_, _, ι', h, rfl, hle, hr, ?_, hk.2⟩
        exact .tuple (by simpa using all2_toA (.cons h2 (.cons h3 h3s)) hk.1)
theorem spec_of_bodyC (hm : P.follows .mixedOrders = true) {f : FuncId} {fn : Func} {c : Code} {N : Nat} {args : List Value} {h : H} {Q : Value → H → Prop} (hf : P.funcs[f]? = some fn) (hb : fn.body = some c)
    (hn : fn.ntmps = N) (hok : okCode N false c = true) (hrN : fn.results.toList.all (okRes N) = true) (hlen : args.length ≤ N) (hk : awp P N c (bodyCQ P N fn.results.toList Q) (tinit args) h) : Spec P f args h Q := by
  intro W ι w cargs hr ha
  subst hn
  refine (callsIn_wide (n := 0)).1 (callsIn_of_wp_marks hf hb trivial ?_)
  have h0 : tinit args fn.ntmps = undef := by simp [tinit, hlen]
  have hmk : marks undef = [] := rfl
  refine wpIn_mono (awp_sound (D := none) hm (.inl rfl) false (fun _ => ⟨rfl, rfl⟩) c hok hr (tinit_rel ha hlen) (by rw [h0]; exact .nil) hk) ?_
  intro e a' w' hc
  have fin : ∀ t' h' ι', Env.le ι ι' → HRel P W ι' h' w' → TRel ι' fn.ntmps t' a'.tmps → DRel ι' (t' fn.ntmps) a'.defers → retCQ P fn.ntmps fn.results.toList Q t' h' → LeavesInM Fence.wide 0 P fn a'.tmps (Post P W ι Q) a'.defers .returning w' := by
    intro t' h' ι' k1 k2 k3 k4 k5
    unfold retCQ at k5
    split at k5
    · rename_i hmk'
      unfold DRel at k4
      rw [hmk'] at k4
      generalize a'.defers = dfs at *
      cases k4
      exact retC_run k1 k2 k3 hrN k5
    · obtain ⟨k6, k7, k8⟩ := k5
      exact leaves_marks _ _ k4 k2 k7 k6 fun w'' hw'' => retC_run k1 hw'' k3 hrN k8
  cases e with
  | normal => obtain ⟨ι', t', h', k1, k2, k3, k4, k5⟩ := hc; exact fin t' h' ι' k1 k2 k3 k4 k5
  | ret => obtain ⟨ι', t', h', k1, k2, k3, k4, k5⟩ := hc; exact fin t' h' ι' k1 k2 k3 k4 k5
  | exit id => obtain ⟨_, _, _, _, _, _, _, k5⟩ := hc; exact k5.elim
  | goto l => obtain ⟨_, _, _, _, _, _, _, k5⟩ := hc; exact k5.elim
  | panic ch => obtain ⟨_, _, _, _, _, _, _, k5⟩ := hc; exact k5.elim
  | outgrown => obtain ⟨_, _, _, _, _, _, _, k5⟩ := hc; exact k5.elim
end
end Go.Proofs.YtbmfblmebhobiaaGreat.AM

/-
  The predicate transformer over the abstract memory is monotone; a loop over fewer variables stands for the loop over all temporaries.
-/
set_option linter.unusedSimpArgs false
set_option linter.unusedVariables false
namespace Go.Proofs.YtbmfblmebhobiaaGreat.AM

section
variable {P : Program}

theorem o_new_mono {cs : List Value} {E : TypeId} {m : Own} {h : H} {K K' : Nat → H → Prop} (hk : ∀ b h, K b h → K' b h) (ho : o_new cs E m h K) : o_new cs E m h K' := fun b h1 h2 => hk _ _ (ho b h1 h2)
theorem o_newObj_mono {o : AObj} {h : H} {K K' : Nat → H → Prop} (hk : ∀ b h, K b h → K' b h) (ho : o_newObj o h K) : o_newObj o h K' := fun b h1 h2 => hk _ _ (ho b h1 h2)
theorem o_pure_mono {r : Option Value} {K K' : Value → Prop} (hk : ∀ v, K v → K' v) (ho : o_pure r K) : o_pure r K' := by
  unfold o_pure at *
  cases r with
  | none => exact ho
  | some v => cases hs : selfV v <;> simp only [hs, cond_true, cond_false] at ho ⊢; exact hk _ ho
theorem YSpec.mono {r : Nat} {args : List Value} {h : H} {Q Q' : Value → H → Prop} (hs : YSpec P r args h Q) (hq : ∀ v h, Q v h → Q' v h) : YSpec P r args h Q' := by
  intro W ι w cargs l hr hl ha
  obtain ⟨L, h1, h2, h3⟩ := hs W ι w cargs l hr hl ha
  exact ⟨L, h1, h2, h3.mono fun _ _ ⟨v, cv, ι', h', h1, h2, h3, h4, h5⟩ => ⟨v, cv, ι', h', h1, h2, h3, h4, hq _ _ h5⟩⟩

theorem o_append_mono {e size bytes : Nat} {s x : Value} {h : H} {K K' : Value → H → Prop} (hk : ∀ v h, K v h → K' v h) (ho : o_append e size bytes s x h K) : o_append e size bytes s x h K' := by
  unfold o_append at *
  revert ho
  repeat' split
  all_goals intro ho
  all_goals first
    | exact ho
    | exact hk _ _ ho
    | exact ⟨ho.1, ho.2.1, ho.2.2.1, hk _ _ ho.2.2.2⟩
    | exact ⟨ho.1, hk _ _ ho.2⟩
    | exact ⟨ho.1, ho.2.1, ho.2.2.1, ho.2.2.2.1, ho.2.2.2.2.1, o_new_mono (fun _ _ h => hk _ _ h) ho.2.2.2.2.2⟩
    | exact ⟨ho.1, ho.2.1, ho.2.2.1, ho.2.2.2.1, ho.2.2.2.2.1, ho.2.2.2.2.2.1, ho.2.2.2.2.2.2.1, ho.2.2.2.2.2.2.2.1, fun b h1 h2 => hk _ _ (ho.2.2.2.2.2.2.2.2 b h1 h2)⟩
    | exact ⟨ho.1, ho.2.1, ho.2.2.1, ho.2.2.2.1, ho.2.2.2.2⟩

theorem o_bin_mono {op : BinOp} {xt : TypeId} {x y : Value} {K K' : Value → Prop} (hk : ∀ v, K v → K' v) (ho : o_bin P op xt x y K) : o_bin P op xt x y K' := by
  unfold o_bin at *
  cases hb : (selfV x && selfV y && okEq P op xt x y) <;> simp only [hb, cond_true, cond_false] at ho ⊢
  · revert ho
    split <;> intro ho <;> first | exact hk _ ho | exact ho
  · exact o_pure_mono hk ho

theorem aCall_mono {c : Call} {ρ : Operand → Value} {h : H} {K K' : Value → H → Prop} (hk : ∀ v h, K v h → K' v h) (ho : aCall P c ρ h K) : aCall P c ρ h K' := by
  have hspec : ∀ {f args}, Spec P f args h K → Spec P f args h K' := fun hs => hs.mono hk
  have hy : ∀ {r args}, YSpec P r args h K → YSpec P r args h K' := fun hs => hs.mono hk
  unfold aCall at *
  revert ho
  split
  · repeat' split
    · unfold o_lenStr; split <;> intro ho <;> first | exact hk _ _ ho | exact ho
    · unfold o_lenSl; split <;> intro ho <;> first | exact hk _ _ ho | exact ho
    · unfold o_lenMap
      repeat' split
      all_goals intro ho
      all_goals first | exact hk _ _ ho | exact ho
    · intro ho; exact hk _ _ ho
    · intro ho; exact ho
  · repeat' split
    all_goals first
      | (intro ho; exact ho)
      | (rename_i i z _ _
         cases hb : (z.cells.size == i.size)
         · intro ho; exact ho
         · intro ho; exact o_append_mono hk ho)
  · unfold o_copy
    repeat' split
    all_goals intro ho
    all_goals first
      | exact ho
      | exact hk _ _ ho
      | exact ⟨ho.1, ho.2.1, ho.2.2.1, hk _ _ ho.2.2.2⟩
  · unfold o_delete
    repeat' split
    all_goals intro ho
    all_goals first
      | exact ho
      | exact ⟨ho.1, hk _ _ ho.2⟩
      | exact ⟨ho.1, ho.2.1, hk _ _ ho.2.2⟩
  · unfold o_minmax
    cases (selfV _ && selfV _) <;> simp only [cond_true, cond_false] <;> intro ho
    · exact ho
    · exact o_pure_mono (fun v => hk v h) ho
  · unfold o_minmax
    cases (selfV _ && selfV _) <;> simp only [cond_true, cond_false] <;> intro ho
    · exact ho
    · exact o_pure_mono (fun v => hk v h) ho
  · rename_i f _
    cases hasBody P f <;> simp only [cond_true, cond_false] <;> intro ho
    · exact ho
    · exact ⟨ho.1, hspec ho.2⟩
  · unfold o_dyn
    split <;> intro ho
    · exact ⟨ho.1, ho.2.1, hspec ho.2.2⟩
    · exact ⟨ho.1, ho.2.1, ho.2.2.1, hy ho.2.2.2⟩
    · exact ho
  · intro ho; exact ho

set_option maxHeartbeats 1000000 in
theorem aop_mono {op : Op} {ρ : Operand → Value} {h : H} {K K' : Value → H → Prop} (hk : ∀ v h, K v h → K' v h) (ho : aop P op ρ h K) : aop P op ρ h K' := by
  unfold aop at *
  revert ho
  split
  · exact hk _ _
  · exact hk _ _
  · unfold o_pick; split <;> first | exact hk _ _ | exact id
  · split <;> first | exact fun ho => o_new_mono (fun _ _ h => hk _ _ h) ho | exact id
  · exact fun ho => ⟨ho.1, o_new_mono (fun _ _ h => hk _ _ h) ho.2⟩
  · unfold o_build
    rename_i t ps
    cases (List.map (fun p : Nat × Operand => (p.1, ρ p.2)) ps.toList).all (fun p => boxV p.2) <;> simp only [cond_true, cond_false]
    · exact id
    · split <;> first | exact hk _ _ | exact id
  · unfold o_buildSlice; split <;> first | exact fun ho => o_new_mono (fun _ _ h => hk _ _ h) ho | exact id
  · split
    · unfold o_load
      split
      · rename_i ag n _ _ _ _ _
        cases ag <;> simp only [cond_true, cond_false] <;> split <;> first | exact hk _ _ | exact id
      · exact id
    · exact id
  · split
    · unfold o_store
      repeat' split
      all_goals intro ho
      all_goals first | exact ho | exact ⟨ho.1, ho.2.1, ho.2.2.1, ho.2.2.2.1, hk _ _ ho.2.2.2.2⟩
    · exact id
  · unfold o_nilCheck; split <;> first | exact hk _ _ | exact id
  · exact o_bin_mono fun v => hk v h
  · rename_i op xt x
    unfold o_un
    cases selfV (ρ x) <;> simp only [cond_true, cond_false]
    · exact id
    · exact o_pure_mono fun v => hk v h
  · split
    · unfold o_conv; split <;> first | exact hk _ _ | exact id
    · unfold o_convStr; split <;> first | exact hk _ _ | exact id
    · split
      · unfold o_bytesToString
        repeat' split
        all_goals first | exact hk _ _ | exact id
      · exact id
    · split
      · rename_i i _ _
        cases Nat.beq i.size 1 <;> simp only [cond_true, cond_false]
        · exact id
        · unfold o_stringToBytes; split <;> first | exact fun ho => o_new_mono (fun _ _ h => hk _ _ h) ho | exact id
      · exact id
    · split
      · generalize Nat.beq _ _ = q
        cases q <;> simp only [cond_true, cond_false]
        · exact id
        · unfold o_mark
          repeat' split
          all_goals first | exact id | exact fun ho => ⟨ho.1, hk _ _ ho.2⟩
      · exact id
    · exact id
  · split <;> first | exact id | exact fun ho => ⟨ho.1, hk _ _ ho.2⟩
  · exact fun ho => ⟨ho.1, ho.2.1, hk _ _ ho.2.2⟩
  · repeat' split
    all_goals first | exact id | exact fun ho => o_newObj_mono (fun _ _ h => hk _ _ h) ho
  · repeat' split
    all_goals first
      | exact id
      | (unfold o_makeSlice
         split
         · exact fun ho => ⟨ho.1, ho.2.1, ho.2.2.1, ho.2.2.2.1, ho.2.2.2.2.1, ho.2.2.2.2.2.1, o_new_mono (fun _ _ h => hk _ _ h) ho.2.2.2.2.2.2⟩
         · exact id)
  · split
    · split
      · unfold o_sliceArr
        repeat' split
        all_goals first
          | exact id
          | (rintro ⟨h1, l, u, h2, h3, h4, h5, h6⟩
             refine ⟨h1, l, u, h2, h3, h4, h5, ?_⟩
             revert h6
             split <;> exact hk _ _)
      · exact id
    · split
      · unfold o_slice
        split
        · rintro ⟨l, u, h2, h3, h4, h5, h6⟩
          refine ⟨l, u, h2, h3, h4, h5, ?_⟩
          revert h6
          repeat' split
          all_goals exact hk _ _
        · exact fun ho => ⟨ho.1, ho.2.1, hk _ _ ho.2.2⟩
        · exact fun ho => ⟨ho.1, ho.2.1, hk _ _ ho.2.2⟩
        · exact fun ho => ⟨ho.1, ho.2.1, hk _ _ ho.2.2⟩
        · exact id
      · exact id
    · split
      · unfold o_sliceStr
        split
        · rintro ⟨l, u, h2, h3, h4, h5, h6⟩; exact ⟨l, u, h2, h3, h4, h5, hk _ _ h6⟩
        · exact id
      · exact id
    · exact id
  · split
    · rename_i off ft _
      cases Nat.beq (szOf P ft) 0 <;> simp only [cond_true, cond_false]
      · unfold o_fieldAddr; split <;> first | exact hk _ _ | exact id
      · exact id
    · exact id
  · unfold o_field
    repeat' split
    all_goals first | exact hk _ _ | exact id
  · unfold o_indexAddr
    repeat' split
    all_goals first | exact id | exact fun ho => ⟨ho.1, ho.2.1, hk _ _ ho.2.2⟩
  · unfold o_index
    repeat' split
    all_goals first
      | exact id
      | (rintro ⟨h1, h2, h3, h4⟩
         refine ⟨h1, h2, h3, ?_⟩
         revert h4
         split <;> first | exact hk _ _ | exact id)
      | (rintro ⟨h1, h2, h3⟩
         refine ⟨h1, h2, ?_⟩
         revert h3
         split <;> first | exact hk _ _ | exact id)
      | exact fun ho => ⟨ho.1, ho.2.1, ho.2.2.1, hk _ _ ho.2.2.2⟩
      | exact fun ho => ⟨ho.1, ho.2.1, hk _ _ ho.2.2⟩
  · unfold o_lookup
    repeat' split
    all_goals first
      | exact id
      | exact fun ho => ⟨ho.1, hk _ _ ho.2⟩
      | exact fun ho => ⟨ho.1, ho.2.1, hk _ _ ho.2.2⟩
  · unfold o_mapUpdate
    repeat' split
    all_goals first
      | exact id
      | exact fun ho => ⟨ho.1, ho.2.1, ho.2.2.1, hk _ _ ho.2.2.2⟩
  · unfold o_mapUpdate
    repeat' split
    all_goals first
      | exact id
      | exact fun ho => ⟨ho.1, ho.2.1, ho.2.2.1, hk _ _ ho.2.2.2⟩
  · unfold o_range
    repeat' split
    all_goals first | exact id | exact fun ho => o_newObj_mono (fun _ _ h => hk _ _ h) ho
  · unfold o_next
    repeat' split
    all_goals first
      | exact id
      | exact hk _ _
      | exact fun ho => ⟨ho.1, fun e he hl => hk _ _ (ho.2.1 e he hl), fun hh => hk _ _ (ho.2.2 hh)⟩
  · unfold o_entry
    repeat' split
    all_goals first
      | exact id
      | exact fun ho => ho.2.elim
      | exact fun ho => ⟨ho.1, hk _ _ ho.2⟩
  · unfold o_extract
    repeat' split
    all_goals first | exact id | exact hk _ _
  · exact aCall_mono hk
  · exact id

theorem aStep_mono {ops : Array Oper} {i : Nat} {K K' : T → H → Prop} {t : T} {h : H} (hk : ∀ t h, K t h → K' t h) (ho : aStep P ops i K t h) : aStep P ops i K' t h := by
  unfold aStep at *
  revert ho
  split
  · exact hk _ _
  · split
    · exact aop_mono fun _ _ => hk _ _
    · unfold o_guard
      split
      · rename_i b _
        generalize (b == _) = q
        cases q <;> simp only [cond_true, cond_false]
        · exact hk _ _
        · exact aop_mono fun _ _ => hk _ _
      · exact hk _ _
theorem aOps_mono {ops : Array Oper} {K K' : T → H → Prop} (hk : ∀ t h, K t h → K' t h) : ∀ (is : List Nat) {t : T} {h : H}, aOps P ops is K t h → aOps P ops is K' t h
  | [], _, _, ho => hk _ _ ho
  | _ :: is, _, _, ho => aStep_mono (fun _ _ h => aOps_mono hk is h) ho
theorem aAny_mono {ops : Array Oper} {K K' : T → H → Prop} (hk : ∀ t h, K t h → K' t h) : ∀ (n : Nat) {l : Array Bool} {t : T} {h : H}, aAny P ops K n l t h → aAny P ops K' n l t h
  | 0, _, _, _, ho => ⟨ho.1, hk _ _ ho.2⟩
  | n + 1, _, _, _, ho => ⟨fun he => hk _ _ (ho.1 he), fun i hi => aStep_mono (fun _ _ h => aAny_mono hk n h) (ho.2 i hi)⟩

theorem sloop_mono {S : Type} {b b' : S → H → (S → H → Prop) → Prop} (hb : ∀ s h K, b s h K → b' s h K) {s : S} {h : H} (ho : sloop b s h) : sloop b' s h := by
  obtain ⟨I, hI, hr⟩ := ho
  exact ⟨I, hI, fun n s h hi => hb _ _ _ (hr n s h hi)⟩
/-- A loop over fewer variables stands for one over more. -/
theorem sloop_of {S S' : Type} (π : S' → S) {b : S → H → (S → H → Prop) → Prop} {b' : S' → H → (S' → H → Prop) → Prop} (hb : ∀ t h K, b (π t) h K → b' t h fun t h => K (π t) h) {t : S'} {h : H} (ho : sloop b (π t) h) : sloop b' t h := by
  obtain ⟨I, hI, hr⟩ := ho
  exact ⟨fun n t h => I n (π t) h, hI, fun n t h hi => hb _ _ _ (hr n (π t) h hi)⟩

theorem athen_mono {K K' : T → H → Prop} {Q Q' : Exit → T → H → Prop} (hk : ∀ t h, K t h → K' t h) (hq : ∀ e t h, Q e t h → Q' e t h) (e : Exit) (t : T) (h : H) (ho : athen K Q e t h) : athen K' Q' e t h := by
  cases e <;> first | exact hk _ _ ho | exact hq _ _ _ ho
theorem awp_mono {N : Nat} : ∀ (c : Code) {Q Q' : Exit → T → H → Prop} {t : T} {h : H}, (∀ e t h, Q e t h → Q' e t h) → awp P N c Q t h → awp P N c Q' t h := by
  intro c
  induction c with
  | skip => intro Q Q' t h hq ho; exact hq _ _ _ ho
  | label l => intro Q Q' t h hq ho; exact hq _ _ _ ho
  | exit id => intro Q Q' t h hq ho; exact hq _ _ _ ho
  | ret => intro Q Q' t h hq ho; exact hq _ _ _ ho
  | goto l => intro Q Q' t h hq ho; exact ho
  | refuse s => intro Q Q' t h hq ho; exact ho
  | scope c ih => intro Q Q' t h hq ho; exact ho
  | region id ops draw =>
    intro Q Q' t h hq ho
    cases draw with
    | false => exact aOps_mono (hq .normal) _ ho
    | true => exact aAny_mono (hq .normal) _ ho
  | seq x y ihx ihy => intro Q Q' t h hq ho; exact ihx (athen_mono (fun _ _ h => ihy hq h) hq) ho
  | cond c x y ihx ihy =>
    intro Q Q' t h hq ho
    have ho' : o_if (aev t c) (awp P N x Q t h) (awp P N y Q t h) := ho
    show o_if (aev t c) (awp P N x Q' t h) (awp P N y Q' t h)
    unfold o_if at *
    revert ho'
    split
    · rename_i b _
      cases b
      · exact ihy hq
      · exact ihx hq
    · exact id
  | block id c ih =>
    intro Q Q' t h hq ho
    refine ih (fun e t h hx => ?_) ho
    cases e with
    | exit j =>
      simp only [ablock] at *
      cases hj : Nat.beq j id <;> simp only [hj, cond_true, cond_false] at hx ⊢ <;> exact hq _ _ _ hx
    | _ => exact hq _ _ _ hx
  | loop c ih => intro Q Q' t h hq ho; exact sloop_mono (fun t h K hb => ih (athen_mono (fun _ _ h => h) hq) hb) ho
  | rangeFunc g ps assign body =>
    intro Q Q' t h hq ho
    simp only [awp] at *
    intro l d h1 h2 h3 h4 h5
    have := ho l d h1 h2 h3 h4 h5
    unfold o_rangeCall at *
    revert this
    split
    · refine fun hh => ⟨hh.1, hh.2.mono fun v h' => ?_⟩
      split <;> first | exact hq _ _ _ | exact id
    · exact id

/-! ### Pieces of code -/
def seqL : Code → Code | .seq a _ => a | c => c
def seqR : Code → Code | .seq _ b => b | c => c
def blkC : Code → Code | .block _ c => c | c => c
def blkId : Code → Nat | .block i _ => i | _ => 0
def lopC : Code → Code | .loop c => c | c => c
def cndX : Code → Code | .cond _ x _ => x | c => c
def cndY : Code → Code | .cond _ _ y => y | c => c
def cndV : Code → Operand | .cond c _ _ => c | _ => .const .nilIface
def isSeq : Code → Bool | .seq _ _ => true | _ => false
def isBlk : Code → Bool | .block _ _ => true | _ => false
def isLop : Code → Bool | .loop _ => true | _ => false
def isCnd : Code → Bool | .cond _ _ _ => true | _ => false
/-- A function's body. -/
def bodyOf (b : Option Code) : Code := b.getD .skip
def mkQ (kn kr : T → H → Prop) (ke : Nat → T → H → Prop) : Exit → T → H → Prop
  | .normal => kn
  | .ret => kr
  | .exit i => ke i
  | _ => fun _ _ => False
def ke0 : Nat → T → H → Prop := fun _ _ _ => False
def keAdd (id : Nat) (k : T → H → Prop) (ke : Nat → T → H → Prop) : Nat → T → H → Prop := fun i => bif Nat.beq i id then k else ke i
/-- Some steps of a row of statements, and what is asked behind them. -/
def awpTo (P : Program) (N : Nat) : Nat → Code → (T → H → Prop) → (Exit → T → H → Prop) → T → H → Prop
  | 0, _, K, _ => K
  | n + 1, c, K, Q => awp P N (seqL c) (athen (awpTo P N n (seqR c) K Q) Q)
def isRow : Nat → Code → Bool
  | 0, _ => true
  | n + 1, c => isSeq c && isRow n (seqR c)
def rest : Nat → Code → Code
  | 0, c => c
  | n + 1, c => rest n (seqR c)
/-- 'awp', wrapped: so that nothing unfolds it unasked. -/
structure Wp (P : Program) (N : Nat) (c : Code) (Q : Exit → T → H → Prop) (t : T) (h : H) : Prop where
  ok : awp P N c Q t h
theorem Wp.weaken {P : Program} {N : Nat} {c : Code} {kn kn' kr : T → H → Prop} {ke : Nat → T → H → Prop} {t : T} {h : H} (hw : Wp P N c (mkQ kn kr ke) t h) (hk : ∀ t h, kn t h → kn' t h) : Wp P N c (mkQ kn' kr ke) t h :=
  ⟨awp_mono c (fun e t h he => by cases e <;> first | exact hk _ _ he | exact he) hw.ok⟩
theorem wpEq {N : Nat} {Q : Exit → T → H → Prop} {c : Code} {t : T} {h : H} {A : Prop} (h0 : A) (e : A = awp P N c Q t h) : Wp P N c Q t h := ⟨e ▸ h0⟩
theorem awpTo_ok0 {N : Nat} {Q : Exit → T → H → Prop} {K : T → H → Prop} : ∀ (n : Nat) {c : Code} {t : T} {h : H}, isRow n c = true → (∀ t h, K t h → Wp P N (rest n c) Q t h) → awpTo P N n c K Q t h → awp P N c Q t h
  | 0, _, _, _, _, hk, ho => (hk _ _ ho).ok
  | n + 1, c, t, h, hi, hk, ho => by
    simp only [isRow, Bool.and_eq_true] at hi
    cases c <;> simp only [isSeq, Bool.false_eq_true, false_and] at hi
    rename_i a b
    exact awp_mono a (athen_mono (fun t h h2 => awpTo_ok0 n hi.2 hk h2) fun _ _ _ h => h) ho
theorem awpTo_ok {N : Nat} {Q : Exit → T → H → Prop} {K : T → H → Prop} (n : Nat) {c : Code} {t : T} {h : H} {A : Prop} (h0 : A) (hi : isRow n c = true) (hk : ∀ t h, K t h → Wp P N (rest n c) Q t h) (e : A = awpTo P N n c K Q t h) : Wp P N c Q t h :=
  ⟨awpTo_ok0 n hi hk (e ▸ h0)⟩
theorem seq_ok {N : Nat} {kn kn' kr : T → H → Prop} {ke : Nat → T → H → Prop} {c : Code} {t : T} {h : H} (hi : isSeq c = true) (hy : ∀ t h, kn' t h → Wp P N (seqR c) (mkQ kn kr ke) t h) (hx : Wp P N (seqL c) (mkQ kn' kr ke) t h) : Wp P N c (mkQ kn kr ke) t h := by
  cases c <;> simp only [isSeq, Bool.false_eq_true] at hi
  rename_i a b
  refine ⟨awp_mono a (fun e t h he => ?_) hx.ok⟩
  cases e <;> first | exact (hy _ _ he).ok | exact he
theorem block_ok {N : Nat} {kn kr : T → H → Prop} {ke : Nat → T → H → Prop} {c : Code} {t : T} {h : H} (k : Nat) (hi : isBlk c = true) (hid : blkId c = k) (hx : Wp P N (blkC c) (mkQ kn kr (keAdd k kn ke)) t h) : Wp P N c (mkQ kn kr ke) t h := by
  subst hid
  cases c <;> simp only [isBlk, Bool.false_eq_true] at hi
  rename_i id b
  refine ⟨awp_mono b (fun e t h he => ?_) hx.ok⟩
  cases e with
  | exit j =>
    simp only [mkQ, keAdd, blkId] at he
    simp only [ablock]
    cases hj : Nat.beq j id <;> simp only [hj, cond_true, cond_false] at he ⊢ <;> exact he
  | _ => exact he
theorem loop_ok {N : Nat} {S : Type} (π : T → S) {kn kr : T → H → Prop} {ke : Nat → T → H → Prop} {c : Code} {b : S → H → (S → H → Prop) → Prop} {t : T} {h : H} (hi : isLop c = true)
    (hb : ∀ t h K, b (π t) h K → Wp P N (lopC c) (mkQ (fun t h => K (π t) h) kr ke) t h) (hx : sloop b (π t) h) : Wp P N c (mkQ kn kr ke) t h := by
  cases c <;> simp only [isLop, Bool.false_eq_true] at hi
  rename_i b
  refine ⟨sloop_of π (fun t h K hk => ?_) hx⟩
  refine awp_mono b (fun e t h he => ?_) (hb t h K hk).ok
  cases e <;> exact he
theorem cond_ok {N : Nat} {kn kr : T → H → Prop} {ke : Nat → T → H → Prop} {c : Code} {t : T} {h : H} {X Y : Prop} {A : Prop} (h0 : A) (hi : isCnd c = true) (hX : X → Wp P N (cndX c) (mkQ kn kr ke) t h) (hY : Y → Wp P N (cndY c) (mkQ kn kr ke) t h) (hx : A = o_if (aev t (cndV c)) X Y) : Wp P N c (mkQ kn kr ke) t h := by
  cases c <;> simp only [isCnd, Bool.false_eq_true] at hi
  rename_i v x y
  refine ⟨?_⟩
  show o_if (aev t v) (awp P N x (mkQ kn kr ke) t h) (awp P N y (mkQ kn kr ke) t h)
  have hx' : o_if (aev t v) X Y := hx ▸ h0
  unfold o_if at *
  revert hx'
  split
  · rename_i b _
    cases b
    · exact fun h => (hY h).ok
    · exact fun h => (hX h).ok
  · exact id
theorem spec_wp (hm : P.follows .mixedOrders = true) {f : FuncId} {fn : Func} {c : Code} {rs : List Nat} {N : Nat} {args : List Value} {h : H} {Q : Value → H → Prop} {Q1 : Exit → T → H → Prop} (hf : P.funcs[f]? = some fn) (hb : fn.body = some c)
    (hrs : fn.results = (rs.map ResultVar.tmp).toArray) (hn : fn.ntmps = N) (hok : okCode N true c = true) (hrN : rs.all (fun r => Nat.blt r N) = true) (hlen : args.length ≤ N) (hk : Wp P N c Q1 (tinit args) h) (he : Q1 = mkQ (retV rs Q) (retV rs Q) ke0) : Spec P f args h Q := by
  subst he
  exact spec_plain hm hf hb hrs hn hok hrN hlen (awp_mono c (fun e t h he => by cases e <;> exact he) hk.ok)
end
end Go.Proofs.YtbmfblmebhobiaaGreat.AM

