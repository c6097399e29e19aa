/-
  The predicate transformer over the abstract memory tells what the model's machine does: operations, regions, code, functions.
-/
import Derived.Test.YtjdhldfeflmneaaGreatAMOps6
import Derived.RangeFuncLeaves
import Derived.RangeFuncCalls
set_option linter.unusedSimpArgs false
set_option linter.unusedVariables false
namespace Go.Proofs.YtjdhldfeflmneaaGreat.AM
open Go.RowKit

/-- The fences that are meant: none at all, maybe in a round. -/
def Wide (F : Fence) : Prop := F = Fence.wide ∨ ∃ l, F = Fence.wide.inRound l
theorem Wide.fn {F : Fence} (h : Wide F) (f : FuncId) : F.fn f := by rcases h with rfl | ⟨l, rfl⟩ <;> trivial
theorem Wide.depth {F : Fence} (h : Wide F) : F.depth.isSome = true → 1 ≤ 0 := by rcases h with rfl | ⟨l, rfl⟩ <;> simp [Fence.wide, Fence.inRound]
theorem Wide.calls {F : Fence} (h : Wide F) {n : Nat} {P : Program} {f : FuncId} {args : Array Value} {w : World} {R : Ending → World → Prop} (hc : Calls P f args w R) : CallsIn F n P f args w R := by
  rcases h with rfl | ⟨l, rfl⟩
  · exact callsIn_wide.2 hc
  · exact CallsIn.inRound l (callsIn_wide.2 hc)
theorem Wide.round {F : Fence} (h : Wide F) {n : Nat} {P : Program} {l : Nat} {f : FuncId} {tmps : Array Value} {assign body : Code} {w : World} {R : Ending → World → Prop} (hc : RoundIn Fence.wide n P l f tmps assign body w R) : RoundIn F n P l f tmps assign body w R := by
  rcases h with rfl | ⟨l, rfl⟩
  · exact hc
  · exact hc

section
variable {P : Program} {W : World} {ι : Env} {h : H} {w : World} {N : Nat} {t : T} {a : Act} {F : Fence}

theorem blt_lt {a b : Nat} (h : Nat.blt a b = true) : a < b := by simpa [Nat.blt_eq] using h
theorem TRel.put (hr : TRel ι N t a.tmps) {d : Option Tmp} {v cv : Value} (hd : (match d with | some d => Nat.blt d N | none => true) = true) (hv : VRel ι v cv) : TRel ι N (tput t d v) (a.put d cv).tmps := by
  cases d with
  | none => exact hr
  | some d =>
    have hlt : d < N := blt_lt hd
    refine ⟨by simp [Act.put, hr.1], fun i hi => ?_⟩
    simp only [tput, tset, Act.put]
    by_cases he : i = d
    · subst he
      have : Nat.beq i i = true := Nat.beq_refl i
      rw [this, cond_true]
      have : (a.tmps.setIfInBounds i cv).getD i undef = cv := by simp [Array.getD, hr.1, hi]
      rw [this]; exact hv
    · have : Nat.beq i d = false := by
        cases hq : Nat.beq i d with
        | false => rfl
        | true => exact absurd (Nat.eq_of_beq_eq_true hq) he
      rw [this, cond_false]
      have : (a.tmps.setIfInBounds d cv).getD i undef = a.tmps.getD i undef := by
        simp [Array.getD_eq_getD_getElem?, Array.getElem?_setIfInBounds_ne (Ne.symm he)]
      rw [this]; exact hr.2 i hi
theorem put_size (a : Act) (d : Option Tmp) (v : Value) : (a.put d v).tmps.size = a.tmps.size := by cases d <;> simp [Act.put]
theorem put_defers (a : Act) (d : Option Tmp) (v : Value) : (a.put d v).defers = a.defers := by cases d <;> simp [Act.put]
theorem tput_top (t : T) {d : Option Tmp} (v : Value) (hd : (match d with | some d => Nat.blt d N | none => true) = true) : tput t d v N = t N := by
  cases d with
  | none => rfl
  | some d =>
    have hlt : d < N := blt_lt hd
    have : Nat.beq N d = false := Bool.eq_false_iff.2 fun hq => Nat.lt_irrefl d (by
      have := Nat.eq_of_beq_eq_true hq
      rw [this] at hlt
      exact hlt)
    simp [tput, tset, this]

theorem VRel.func0 (f : FuncId) : VRel ι (.func (.func f) #[] #[]) (.func (.func f) #[] #[]) := .a (.c (.func f .nil .nil))
theorem operand_rel (hr : TRel ι N t a.tmps) {x : Operand} (hx : okOperand N x = true) : VRel ι (aev t x) (a.eval x) := by
  cases x with
  | tmp i => exact hr.2 i (blt_lt hx)
  | const v => exact vrel_self hx
  | global g => cases hx
  | func f => exact VRel.func0 f

/-- What is behind an operation. -/
def Next' (P : Program) (W : World) (ι : Env) (K : Value → H → Prop) (next : Value → World → Prop) : Prop :=
  ∀ v cv ι' h' w', Env.le ι ι' → HRel P W ι' h' w' → VRel ι' v cv → K v h' → next cv w'

theorem upon_sim {o : Oper} {s : Sem Value} {K : Value → H → Prop} {next : Act → World → Prop} {Q : Exit → Act → World → Prop} (hsem : o.semAt F.round a.eval = (do pure (.value (← s))))
    (hs : Sim P W ι s w K) (hn : Next' P W ι K fun cv w' => next (a.put o.dst cv) w') : o.uponIn F 0 P a next Q ((o.semAt F.round a.eval).run P w) := by
  obtain ⟨cv, w', ι', v, h', h1, h2, h3, h4, h5⟩ := hs
  rw [hsem]
  simp only [Sem.run_bind, h1, Result.andThen_ok, Sem.run_pure]
  exact hn v cv ι' h' w' h2 h3 h4 h5
theorem upon_simU {o : Oper} {s : Sem Unit} {K : Value → H → Prop} {next : Act → World → Prop} {Q : Exit → Act → World → Prop} (hsem : o.semAt F.round a.eval = (do s; pure .skip))
    (hs : SimU P W ι s w fun h => K undef h) (hn : Next' P W ι K fun cv w' => next (a.put o.dst cv) w') : o.uponIn F 0 P a next Q ((o.semAt F.round a.eval).run P w) := by
  obtain ⟨w', ι', h', h1, h2, h3, h4⟩ := hs
  rw [hsem]
  simp only [Sem.run_bind, h1, Result.andThen_ok, Sem.run_pure]
  exact hn undef undef ι' h' w' h2 h3 VRel.undef h4

theorem args_rel (hr : TRel ι N t a.tmps) : ∀ {l : List Operand}, l.all (okOperand N) = true → (l.map (aev t)).all boxV = true → All2 (ARel ι) (l.map (aev t)) (l.map a.eval)
  | [], _, _ => .nil
  | x :: l, hx, hb => by
    simp only [List.all_cons, Bool.and_eq_true, List.map_cons] at hx hb
    exact .cons ((operand_rel hr hx.1).toA hb.1) (args_rel hr hx.2 hb.2)
theorem plain_rel (hr : TRel ι N t a.tmps) : ∀ {l : List Operand}, l.all (okOperand N) = true → (l.map (aev t)).all plainC = true → All2 (SRel ι) (l.map (aev t)) (l.map a.eval)
  | [], _, _ => .nil
  | x :: l, hx, hb => by
    simp only [List.all_cons, Bool.and_eq_true, List.map_cons] at hx hb
    exact .cons ((operand_rel hr hx.1).toS hb.1) (plain_rel hr hx.2 hb.2)
theorem opt_rel (hr : TRel ι N t a.tmps) {x : Option Operand} (hx : ∀ y, x = some y → okOperand N y = true) : ORelOpt ι (x.map (aev t)) (x.map a.eval) := by
  cases x with
  | none => exact .inl ⟨rfl, rfl⟩
  | some y => exact .inr ⟨_, _, rfl, rfl, operand_rel hr (hx y rfl)⟩

theorem hasBody_run {f : FuncId} (hf : hasBody P f = true) (args : Array Value) (w : World) : (callFunc f args).run P w = .ok (.enter f args) w := by
  unfold hasBody at hf
  unfold callFunc
  simp only [Sem.run_bind, run_program, Result.andThen_ok]
  split at hf
  · rename_i fn hfn
    simp only [Bool.and_eq_true, bne_iff_ne, ne_eq] at hf
    simp only [hfn]
    have h1 : (fn.name == "runtime.NumGoroutine") = false := by simpa using hf.2
    have h2 : fn.body.isNone = false := by cases hb : fn.body <;> simp_all
    simp [h1, h2]
  · cases hf

theorem spec_upon {o : Oper} {f : FuncId} {args : List Value} {cargs : Array Value} {K : Value → H → Prop} {next : Act → World → Prop} {Q : Exit → Act → World → Prop} (hF : Wide F)
    (hrun : (o.semAt F.round a.eval).run P w = .ok (.enter f cargs) w) (hr : HRel P W ι h w) (ha : All2 (ARel ι) args cargs.toList) (hs : Spec P f args h K)
    (hn : Next' P W ι K fun cv w' => next (a.put o.dst cv) w') : o.uponIn F 0 P a next Q ((o.semAt F.round a.eval).run P w) := by
  rw [hrun, Oper.uponIn_enter]
  refine ⟨hF.depth, hF.calls ((hs W ι w cargs hr ha).mono ?_)⟩
  rintro e w' ⟨v, cv, ι', h', rfl, h1, h2, h3, h4⟩
  exact hn v cv ι' h' w' h1 h2 h3 h4

theorem yspec_upon {o : Oper} {r : Nat} {l : Loc} {args : List Value} {cargs : Array Value} {K : Value → H → Prop} {next : Act → World → Prop} {Q : Exit → Act → World → Prop} (hF : Wide F)
    (hrun : (o.semAt F.round a.eval).run P w = (Instr.yield l.b cargs).run P w) (hr : HRel P W ι h w) (hl : ι r = some l) (ha : All2 (ARel ι) args cargs.toList) (hs : YSpec P r args h K)
    (hn : Next' P W ι K fun cv w' => next (a.put o.dst cv) w') : o.uponIn F 0 P a next Q ((o.semAt F.round a.eval).run P w) := by
  obtain ⟨L, h1, h2, h3⟩ := hs W ι w cargs l hr hl ha
  rw [hrun, run_yield h1 h2.symm, Oper.uponIn_round]
  refine ⟨hF.depth, hF.round (h3.mono ?_)⟩
  rintro e w' ⟨v, cv, ι', h', rfl, h1, h2, h3, h4⟩
  exact hn v cv ι' h' w' h1 h2 h3 h4

theorem info_of_size {e : TypeId} (h : szOf P e ≠ 0) : ∃ i, P.info? e = some i ∧ i.size = szOf P e := by
  unfold szOf at *
  cases hi : P.info? e with
  | none => rw [hi] at h; exact absurd rfl h
  | some i => exact ⟨i, rfl, by simp⟩

theorem call_sound {o : Oper} {c : Call} {K : Value → H → Prop} {next : Act → World → Prop} {Q : Exit → Act → World → Prop} (hF : Wide F) (hsem : o.semAt F.round a.eval = (do let d ← resolve a.eval c o.type; invoke d.target d.args))
    (hops : (Op.call c).operands.toList.all (okOperand N) = true) (hr : HRel P W ι h w) (ht : TRel ι N t a.tmps)
    (hk : aCall P c (aev t) h K) (hn : Next' P W ι K fun cv w' => next (a.put o.dst cv) w') : o.uponIn F 0 P a next Q ((o.semAt F.round a.eval).run P w) := by
  obtain ⟨callee, args, argTypes⟩ := c
  have opr : ∀ x, x ∈ args.toList → VRel ι (aev t x) (a.eval x) := fun x hx => operand_rel ht (List.all_eq_true.1 hops x (by simp [Op.operands, Call.operands]; exact .inr (by simpa using hx)))
  have hargs : args.toList.all (okOperand N) = true := List.all_eq_true.2 fun x hx => List.all_eq_true.1 hops x (by simp [Op.operands, Call.operands]; exact .inr (by simpa using hx))
  unfold aCall at hk
  simp only at hk
  have mk : ∀ {l : List Operand}, args.toList = l → args = l.toArray := fun h => Array.ext' (by simpa using h)
  have mkT : ∀ {l : List TypeId}, argTypes.toList = l → argTypes = l.toArray := fun h => Array.ext' (by simpa using h)
  have bsem : ∀ {b : Builtin} {s : Sem Value}, callee = .builtin b → builtin b argTypes o.type (args.map fun | .const _ => true | _ => false) (args.map a.eval) = (do pure (.value (← s))) →
      o.semAt F.round a.eval = (do pure (.value (← s))) := by
    intro b s hb hs
    subst hb
    rw [hsem, ← hs]; rfl
  split at hk
  · rename_i x ty hal htl
    have ha := mk hal
    have hty := mkT htl
    subst hty
    have hx := opr x (by rw [hal]; simp)
    refine upon_sim (s := Builtin.len_ #[ty] o.type #[a.eval x]) (bsem rfl (by rw [ha]; simp only [List.map_toArray, List.map_cons, List.map_nil]; rfl)) ?_ hn
    split at hk
    · rename_i hu; exact sim_lenStr hu hr hx hk
    · rename_i e hu; exact sim_lenSl hu hr hx hk
    · rename_i kt e hu; exact sim_lenMap hu hr hx hk
    · rename_i n e hu; exact sim_lenArr hu hr hk
    · exact hk.elim
  · rename_i s x ty uty hal htl
    have ha := mk hal
    have hty := mkT htl
    subst hty
    have hs := opr s (by rw [hal]; simp)
    have hx := opr x (by rw [hal]; simp)
    refine upon_sim (s := Builtin.append_ #[ty, uty] o.type #[a.eval s, a.eval x]) (bsem rfl (by rw [ha]; simp only [List.map_toArray, List.map_cons, List.map_nil]; rfl)) ?_ hn
    have fin : ∀ e d, P.underlying ty = some (.slice e) → P.underlying uty = some d → (∀ k, d ≠ .int k) →
        (match P.info? e, zeroOf P e with
        | some i, some z => bif z.cells.size == i.size then o_append e i.size i.bytes (aev t s) (aev t x) h K else False
        | _, _ => False) → Sim P W ι (Builtin.append_ #[ty, uty] o.type #[a.eval s, a.eval x]) w K := by
      intro e d hu hd hdk hk
      split at hk
      · rename_i i z hi hz
        cases hzs : (z.cells.size == i.size) with
        | false => rw [hzs, cond_false] at hk; exact hk.elim
        | true => rw [hzs, cond_true] at hk; exact sim_append hu ⟨d, hd, hdk⟩ hi hz (by simpa using hzs) hr hs hx hk
      · exact hk.elim
    split at hk
    · rename_i e e' hu hu'; exact fin e _ hu hu' (by simp) hk
    · rename_i e hu hu'; exact fin e _ hu hu' (by simp) hk
    · exact hk.elim
  · rename_i d x ty uty hal htl
    have ha := mk hal
    have hty := mkT htl
    subst hty
    refine upon_sim (s := Builtin.copy_ #[ty, uty] o.type #[a.eval d, a.eval x]) (bsem rfl (by rw [ha]; simp only [List.map_toArray, List.map_cons, List.map_nil]; rfl)) ?_ hn
    split at hk
    · rename_i e hu
      split at hk
      · rename_i i hi; exact sim_copy hu hi hr (opr d (by rw [hal]; simp)) (opr x (by rw [hal]; simp)) hk
      · exact hk.elim
    · exact hk.elim
  · rename_i m k ty uty hal htl
    have ha := mk hal
    have hty := mkT htl
    subst hty
    refine upon_sim (s := Builtin.delete_ #[ty, uty] o.type #[a.eval m, a.eval k]) (bsem rfl (by rw [ha]; simp only [List.map_toArray, List.map_cons, List.map_nil]; rfl)) ?_ hn
    split at hk
    · rename_i kt e hu
      split at hk
      · rename_i kk hkk; exact sim_delete hu hkk rfl hr (opr m (by rw [hal]; simp)) (opr k (by rw [hal]; simp)) hk
      · exact hk.elim
    · exact hk.elim
  · rename_i x y hal
    have ha := mk hal
    have hx := opr x (by rw [hal]; simp)
    have hy := opr y (by rw [hal]; simp)
    unfold o_minmax at hk
    cases hs : (selfV (aev t x) && selfV (aev t y)) with
    | false => rw [hs, cond_false] at hk; exact hk.elim
    | true =>
      rw [hs, cond_true] at hk
      simp only [Bool.and_eq_true] at hs
      refine upon_sim (s := Builtin.min2 (a.eval x) (a.eval y)) (bsem rfl (by rw [ha]; simp [builtin, Builtin.min_])) ?_ hn
      rw [vrel_eq hs.1 hx, vrel_eq hs.2 hy]; exact sim_pure hr hk
  · rename_i x y hal
    have ha := mk hal
    have hx := opr x (by rw [hal]; simp)
    have hy := opr y (by rw [hal]; simp)
    unfold o_minmax at hk
    cases hs : (selfV (aev t x) && selfV (aev t y)) with
    | false => rw [hs, cond_false] at hk; exact hk.elim
    | true =>
      rw [hs, cond_true] at hk
      simp only [Bool.and_eq_true] at hs
      refine upon_sim (s := Builtin.max2 (a.eval x) (a.eval y)) (bsem rfl (by rw [ha]; simp [builtin, Builtin.max_])) ?_ hn
      rw [vrel_eq hs.1 hx, vrel_eq hs.2 hy]; exact sim_pure hr hk
  · rename_i f
    cases hb : hasBody P f with
    | false => rw [hb, cond_false] at hk; exact hk.elim
    | true =>
    rw [hb, cond_true] at hk
    obtain ⟨hbox, hk⟩ := hk
    refine spec_upon (cargs := args.map a.eval) (args := args.toList.map (aev t)) hF ?_ hr ?_ hk hn
    · rw [hsem]
      have : ∀ w, (invoke (.fn (.func f) #[]) (args.map a.eval)).run P w = .ok (.enter f (args.map a.eval)) w := fun w => by
        simp [invoke, hasBody_run hb]
      simp [resolve, Act.eval, Deferred.ofValue, this]
    · have := args_rel ht hargs hbox
      simpa using this
  · rename_i i
    have hf : VRel ι (t i) (a.eval (.tmp i)) := operand_rel ht (List.all_eq_true.1 hops (.tmp i) (by simp [Op.operands, Call.operands]))
    obtain ⟨hbox, hk⟩ := hk
    have hav := args_rel ht hargs hbox
    have hres : ∀ fn first captured, a.eval (.tmp i) = .func fn first captured → o.semAt F.round a.eval = invoke (.fn fn captured) (first ++ args.map a.eval) := by
      intro fn first captured he
      rw [hsem]
      simp [resolve, he, Deferred.ofValue]
    generalize hce : a.eval (.tmp i) = ce at hf
    simp only [aev] at hk
    split at hk
    · rename_i f first captured hv
      obtain ⟨hb, hk⟩ := hk
      rw [hv] at hf
      have hc := hf.cell rfl
      cases hc with
      | s hc => cases hc
      | func f h1 h2 =>
        rename_i first' captured'
        refine spec_upon (cargs := first' ++ args.map a.eval ++ captured') hF ?_ hr ?_ hk hn
        · rw [hres _ _ _ hce]
          simp [invoke, hasBody_run hb]
        · have hs1 : All2 (ARel ι) first.toList first'.toList := h1.mono fun _ _ h => .c (.s h)
          have hs2 : All2 (ARel ι) captured.toList captured'.toList := h2.mono fun _ _ h => .c (.s h)
          simpa using (hs1.append hav).append hs2
    · rename_i r b c hv
      obtain ⟨h1, h2, hk⟩ := hk
      rw [hv] at hf
      have hc := hf.cell rfl
      cases hc with
      | s hc => cases hc
      | yield hl =>
        rename_i l
        refine yspec_upon (cargs := args.map a.eval) hF ?_ hr hl ?_ hk hn
        · rw [hres _ _ _ hce]
          simp [invoke]
        · simpa using hav
    · exact hk.elim
  · exact hk.elim

set_option maxHeartbeats 2000000 in
theorem aop_sound {o : Oper} {K : Value → H → Prop} {next : Act → World → Prop} {Q : Exit → Act → World → Prop} (hF : Wide F) (hok : okOper N o = true) (hr : HRel P W ι h w) (ht : TRel ι N t a.tmps)
    (hk : aop P o.op (aev t) h K) (hn : Next' P W ι K fun cv w' => next (a.put o.dst cv) w') : o.wpIn F 0 P a w next Q := by
  refine ⟨fun f _ => hF.fn f, ?_⟩
  unfold okOper at hok
  simp only [Bool.and_eq_true] at hok
  obtain ⟨⟨_, hops⟩, hnd⟩ := hok
  have hsem : o.semAt F.round a.eval = execOp a.eval o := Oper.semAt_eq _ _ _ (fun c hc => by rw [hc] at hnd; cases hnd)
  have opr : ∀ x, x ∈ o.op.operands.toList → VRel ι (aev t x) (a.eval x) := fun x hx => operand_rel ht (List.all_eq_true.1 hops x hx)
  obtain ⟨dst, op, type, pos, after, guard⟩ := o
  simp only at hk hops opr hnd
  cases op with
  | move x =>
    exact upon_sim (s := pure (a.eval x)) (by rw [hsem]; rfl) (Sim.quiet hr rfl (opr x (by simp [Op.operands])) hk) hn
  | assign x =>
    exact upon_sim (s := pure (a.eval x)) (by rw [hsem]; rfl) (Sim.quiet hr rfl (opr x (by simp [Op.operands])) hk) hn
  | pick c x y =>
    have hc := opr c (by simp [Op.operands])
    have hx := opr x (by simp [Op.operands])
    have hy := opr y (by simp [Op.operands])
    simp only [aop, o_pick] at hk
    split at hk
    · rename_i q hq
      rw [hq] at hc
      have hcq := hc.bool
      refine upon_sim (s := pure (bif q then a.eval x else a.eval y)) ?_ (Sim.quiet hr rfl ?_ hk) hn
      · rw [hsem]; simp only [execOp, hcq, asBool]; cases q <;> rfl
      · cases q <;> assumption
    · exact hk.elim
  | alloc E =>
    simp only [aop] at hk
    split at hk
    · rename_i z hz; exact upon_sim (by rw [hsem]; rfl) (sim_alloc hz hr hk) hn
    · exact hk.elim
  | box E x => exact upon_sim (by rw [hsem]; rfl) (sim_box hr (opr x (by simp [Op.operands])) hk.1 hk.2) hn
  | build ty ps =>
    refine upon_sim (s := Instr.build ty (ps.map fun (i, x) => (i, a.eval x))) (by rw [hsem]; rfl) ?_ hn
    have hk' : o_build P ty (ps.toList.map fun p => (p.1, aev t p.2)) fun v => K v h := hk
    have := sim_build (t := ty) (ps := ps.toList.map fun p => (p.1, aev t p.2)) (ps' := ps.toList.map fun p => (p.1, a.eval p.2)) hr (fun hb => parts_rel (ρ := aev t) (ρ' := a.eval) (fun p hp => opr p.2 (by simp [Op.operands]; exact ⟨p.1, by simpa using hp⟩)) hb) hk'
    have e : (ps.toList.map fun p => (p.1, a.eval p.2)).toArray = ps.map fun p => (p.1, a.eval p.2) := by apply Array.ext'; simp
    rw [e] at this; exact this
  | buildSlice ty n ps =>
    refine upon_sim (s := Instr.buildSlice ty n (ps.map fun (i, x) => (i, a.eval x))) (by rw [hsem]; rfl) ?_ hn
    simp only [aop, o_buildSlice] at hk
    split at hk
    · rename_i cs e hl
      have := sim_buildSlice (t := ty) (ps := ps.toList.map fun p => (p.1, aev t p.2)) (ps' := ps.toList.map fun p => (p.1, a.eval p.2)) hr (fun hb => parts_rel (ρ := aev t) (ρ' := a.eval) (fun p hp => opr p.2 (by simp [Op.operands]; exact ⟨p.1, by simpa using hp⟩)) hb) hl hk
      have e : (ps.toList.map fun p => (p.1, a.eval p.2)).toArray = ps.map fun p => (p.1, a.eval p.2) := by apply Array.ext'; simp
      rw [e] at this; exact this
    · exact hk.elim
  | load ty x =>
    simp only [aop] at hk
    split at hk
    · rename_i ag n hts; exact upon_sim (by rw [hsem]; rfl) (sim_load hts hr (opr x (by simp [Op.operands])) hk) hn
    · exact hk.elim
  | store ty x y =>
    simp only [aop] at hk
    split at hk
    · rename_i ag n hts
      exact upon_simU (by rw [hsem]; rfl) (sim_store hts hr (opr x (by simp [Op.operands])) (opr y (by simp [Op.operands])) hk) hn
    · exact hk.elim
  | nilCheck x =>
    obtain ⟨v, h1, h2, h3, h4, h5, h6⟩ := sim_nilCheck_run (opr x (by simp [Op.operands])) hk
    refine upon_sim (s := pure (a.eval x)) ?_ (Sim.quiet hr rfl h1 h2) hn
    rw [hsem]
    simp only [execOp]
    generalize a.eval x = cx at *
    cases cx with
    | pointer p => cases p with
      | none => exact absurd rfl h4
      | some _ => rfl
    | nilIface => exact absurd rfl h5
    | nilFunc => exact absurd rfl h6
    | func f b c => cases f with
      | method m => exact absurd rfl (h3 _ _ _)
      | _ => rfl
    | _ => rfl
  | binOp op xt x y yt =>
    exact upon_sim (s := do eqGuard op xt x y (a.eval x) (a.eval y); binOp op xt (a.eval x) (a.eval y)) (by rw [hsem]; rfl) (sim_bin hr (opr x (by simp [Op.operands])) (opr y (by simp [Op.operands])) hk) hn
  | unOp op xt x =>
    have hx := opr x (by simp [Op.operands])
    simp only [aop, o_un] at hk
    cases hs : selfV (aev t x) with
    | false => rw [hs, cond_false] at hk; exact hk.elim
    | true =>
      rw [hs, cond_true] at hk
      have := vrel_eq hs hx
      refine upon_sim (s := Op.unary op (a.eval x)) (by rw [hsem]; rfl) ?_ hn
      rw [this]; exact sim_pure hr hk
  | convert src dst' x =>
    have hx := opr x (by simp [Op.operands])
    refine upon_sim (s := convert src dst' (a.eval x)) (by rw [hsem]; rfl) ?_ hn
    simp only [aop] at hk
    split at hk
    · rename_i k k' hd hs
      unfold o_conv at hk
      split at hk
      · rename_i k2 n hv
        rw [hv] at hx
        rw [hx.int]
        exact Sim.quiet hr (by simp [convert, run_und hs, run_und hd, Conv.intToInt]) (vrel_self rfl) hk
      · exact hk.elim
    · rename_i hd hs
      unfold o_convStr at hk
      split at hk
      · rename_i s hv
        rw [hv] at hx
        rw [hx.string]
        exact Sim.quiet hr (by simp [convert, run_und hs, run_und hd]) (vrel_self rfl) hk
      · exact hk.elim
    · rename_i e hd hs
      split at hk
      · rename_i he; exact sim_bytesToString hs hd he hr hx hk
      · exact hk.elim
    · rename_i e hd hs
      split at hk
      · rename_i i he hi
        cases h1 : Nat.beq i.size 1 with
        | false => rw [h1, cond_false] at hk; exact hk.elim
        | true => rw [h1, cond_true] at hk; exact sim_stringToBytes hs hd he hi (Nat.eq_of_beq_eq_true h1) hr hx hk
      · exact hk.elim
    · rename_i e e' hd hs
      split at hk
      · rename_i he
        cases h1 : Nat.beq src dst' with
        | false => rw [h1, cond_false] at hk; exact hk.elim
        | true => rw [h1, cond_true] at hk; exact sim_mark ⟨_, hs⟩ hd he (Nat.eq_of_beq_eq_true h1) hr hx hk
      · exact hk.elim
    · exact hk.elim
  | makeInterface ty x =>
    have hx := opr x (by simp [Op.operands])
    refine upon_sim (s := Instr.makeInterface ty (a.eval x)) (by rw [hsem]; rfl) ?_ hn
    simp only [aop] at hk
    split at hk
    · exact hk.elim
    · exact hk.elim
    · rename_i d hd h1
      obtain ⟨hp, hk⟩ := hk
      refine Sim.quiet hr (run_makeInterface w ty (a.eval x) ?_) (.a (.c (.iface ty (hx.toS hp)))) hk
      unfold Program.concrete
      rw [h1]
      split <;> simp_all
  | makeFunc fn first captured =>
    cases fn with
    | func f =>
      obtain ⟨h1, h2, hk⟩ := hk
      refine upon_sim (s := Instr.makeFunc (.func f) (first.map a.eval) (captured.map a.eval)) (by rw [hsem]; rfl) ?_ hn
      have e1 : first.toList.all (okOperand N) = true := by
        rw [List.all_eq_true] at hops ⊢
        intro x hx; exact hops x (by simp [Op.operands]; exact .inl (by simpa using hx))
      have e2 : captured.toList.all (okOperand N) = true := by
        rw [List.all_eq_true] at hops ⊢
        intro x hx; exact hops x (by simp [Op.operands]; exact .inr (by simpa using hx))
      refine Sim.quiet (cv := .func (.func f) (first.map a.eval) (captured.map a.eval)) hr rfl (.a (.c (.func f ?_ ?_))) hk
      · simpa using plain_rel ht e1 h1
      · simpa using plain_rel ht e2 h2
    | _ => exact hk.elim
  | makeMap ty r =>
    refine upon_sim (s := Instr.makeMap ty (r.map a.eval)) (by rw [hsem]; rfl) ?_ hn
    have hrr := opt_rel ht (x := r) (fun y hy => List.all_eq_true.1 hops y (by subst hy; simp [Op.operands]))
    simp only [aop] at hk
    split at hk
    · rename_i kt e hu hro
      split at hk
      · rcases hrr with ⟨_, h2⟩ | ⟨v, cv, h1, _⟩
        · exact sim_makeMap hu (.inl h2) hr hk
        · rw [hro] at h1; cases h1
      · exact hk.elim
    · rename_i kt e k n hu hro
      split at hk
      · rcases hrr with ⟨h1, _⟩ | ⟨v, cv, h1, h2, hv⟩
        · rw [hro] at h1; cases h1
        · rw [hro] at h1; cases h1
          exact sim_makeMap hu (.inr ⟨k, n, by rw [h2, hv.int]⟩) hr hk
      · exact hk.elim
    · exact hk.elim
  | makeSlice ty l c =>
    simp only [aop] at hk
    split at hk
    · rename_i e hu
      split at hk
      · rename_i i z hi hz; exact upon_sim (by rw [hsem]; rfl) (sim_makeSlice hu hi hz hr (opr l (by simp [Op.operands])) (opr c (by simp [Op.operands])) hk) hn
      · exact hk.elim
    · exact hk.elim
  | slice ty x lo hi mx =>
    have hx := opr x (by simp [Op.operands])
    have hlo := opt_rel ht (x := lo) (fun y hy => List.all_eq_true.1 hops y (by subst hy; simp [Op.operands]))
    have hhi := opt_rel ht (x := hi) (fun y hy => List.all_eq_true.1 hops y (by subst hy; simp [Op.operands]))
    have hmx := opt_rel ht (x := mx) (fun y hy => List.all_eq_true.1 hops y (by subst hy; simp [Op.operands]))
    refine upon_sim (s := Instr.sliceAt ty (a.eval x) (lo.map a.eval) (hi.map a.eval) (mx.map a.eval)) (by rw [hsem]; rfl) ?_ hn
    simp only [aop] at hk
    split at hk
    · rename_i n e hu
      split at hk
      · exact sim_sliceArr hu (by assumption) hr hx hlo hhi hk
      · exact hk.elim
    · rename_i e hu
      split at hk
      · rename_i inf hi'; exact sim_slice hu hi' hr hx hlo hhi hmx hk
      · exact hk.elim
    · rename_i hu
      cases mx with
      | some _ => exact hk.elim
      | none => exact sim_sliceStr hu hr hx hlo hhi hk
    · exact hk.elim
  | fieldAddr s x f =>
    simp only [aop] at hk
    split at hk
    · rename_i off ft hf
      cases hz : Nat.beq (szOf P ft) 0 with
      | true => rw [hz, cond_true] at hk; exact hk.elim
      | false =>
        rw [hz, cond_false] at hk
        exact upon_sim (by rw [hsem]; rfl) (sim_fieldAddr hf (fun he => by rw [he] at hz; cases hz) hr (opr x (by simp [Op.operands])) hk) hn
    · exact hk.elim
  | field s x f =>
    simp only [aop] at hk
    split at hk
    · rename_i off ft hf
      split at hk
      · rename_i ag n hts; exact upon_sim (by rw [hsem]; rfl) (sim_field hf hts hr (opr x (by simp [Op.operands])) hk) hn
      · exact hk.elim
    · exact hk.elim
  | indexAddr ty x i =>
    have hx := opr x (by simp [Op.operands])
    have hi := opr i (by simp [Op.operands])
    refine upon_sim (s := Instr.indexAt ty (a.eval x) (a.eval i)) (by rw [hsem]; rfl) ?_ hn
    simp only [aop] at hk
    split at hk
    · rename_i n e hu
      split at hk
      · rename_i inf hinf; exact sim_indexAddr_array hu hinf hr hx hi hk
      · exact hk.elim
    · rename_i e hu
      split at hk
      · rename_i inf hinf; exact sim_indexAddr_slice hu hinf hr hx hi hk
      · exact hk.elim
    · exact hk.elim
  | index ty x i =>
    have hx := opr x (by simp [Op.operands])
    have hi := opr i (by simp [Op.operands])
    refine upon_sim (s := Instr.index ty (a.eval x) (a.eval i)) (by rw [hsem]; rfl) ?_ hn
    simp only [aop] at hk
    split at hk
    · rename_i n e hu
      split at hk
      · rename_i ag sz hts; exact sim_index_array hu hts hr hx hi hk
      · exact hk.elim
    · rename_i hu; exact sim_index_string hu hr hx hi hk
    · exact hk.elim
  | lookup ty x k ok =>
    have hx := opr x (by simp [Op.operands])
    have hkk := opr k (by simp [Op.operands])
    refine upon_sim (s := Instr.lookup ty (a.eval x) (a.eval k) ok) (by rw [hsem]; rfl) ?_ hn
    simp only [aop] at hk
    split at hk
    · rename_i kt e hu
      split at hk
      · rename_i z kk hz hkd; exact sim_lookup hu hz hkd hr hx hkk hk
      · exact hk.elim
    · exact hk.elim
  | mapUpdate ty m k x =>
    refine upon_simU (s := Instr.mapUpdate ty (a.eval m) (a.eval k) (a.eval x)) (by rw [hsem]; rfl) ?_ hn
    simp only [aop] at hk
    split at hk
    · rename_i kt e hu
      split at hk
      · rename_i kk hkd; exact sim_mapUpdate hu hkd hr (opr m (by simp [Op.operands])) (opr k (by simp [Op.operands])) (opr x (by simp [Op.operands])) hk
      · exact hk.elim
    · exact hk.elim
  | insert ty m k x =>
    refine upon_simU (s := Instr.mapUpdate ty (a.eval m) (a.eval k) (a.eval x)) (by rw [hsem]; rfl) ?_ hn
    simp only [aop] at hk
    split at hk
    · rename_i kt e hu
      split at hk
      · rename_i kk hkd; exact sim_mapUpdate hu hkd hr (opr m (by simp [Op.operands])) (opr k (by simp [Op.operands])) (opr x (by simp [Op.operands])) hk
      · exact hk.elim
    · exact hk.elim
  | range ty x =>
    refine upon_sim (s := Instr.range ty (a.eval x)) (by rw [hsem]; rfl) ?_ hn
    simp only [aop] at hk
    split at hk
    · rename_i kt e hu; exact sim_range hu hr (opr x (by simp [Op.operands])) hk
    · exact hk.elim
  | next it isStr =>
    cases isStr with
    | true => exact hk.elim
    | false => exact upon_sim (s := Instr.next (a.eval it) false type) (by rw [hsem]; rfl) (sim_next hr (opr it (by simp [Op.operands])) hk) hn
  | entry it => exact upon_sim (s := Instr.entry (a.eval it)) (by rw [hsem]; rfl) (sim_entry hr (opr it (by simp [Op.operands])) hk) hn
  | extract x i => exact upon_sim (by rw [hsem]; rfl) (sim_extract hr (opr x (by simp [Op.operands])) hk) hn
  | call c => exact call_sound hF hsem hops hr ht hk hn
  | _ => exact hk.elim
end
end Go.Proofs.YtjdhldfeflmneaaGreat.AM
