import Derived.Test.YtbmfblmebhobiaaGreatM7
import Derived.Test.YtbmfblmebhobiaaGreatM3
/-
  The executor over code: regions, loops, calls by bodies, ranges over functions; its soundness.
-/
set_option linter.unusedSimpArgs false
set_option linter.unusedVariables false
namespace Go.Proofs.YtbmfblmebhobiaaGreat.AM
noncomputable section

inductive XE where
  | normal | ret | exit (j : Nat)
def XE.ex : XE → Exit
  | .normal => .normal
  | .ret => .ret
  | .exit j => .exit j
structure XS where
  t : XT
  h : EH
  n : Nat
  ms : List Nat

def e_step (P : Program) (C : CallF) (Y : YieldF) (ops : Array Oper) (o : Oper) (t : XT) (h : EH) (n : Nat) : Option (XT × EH × Nat) :=
  match o.guard with
  | none => (match e_op P C Y o.op t h n with | some (v, h, n) => some (xput t o.dst v, h, n) | none => none)
  | some (j, want) => (match gv ops j t with
    | some (.a (.c (.bool b))) => bif b == want then (match e_op P C Y o.op t h n with | some (v, h, n) => some (xput t o.dst v, h, n) | none => none) else some (xput t o.dst uX, h, n)
    | some (.tup _) => some (xput t o.dst uX, h, n)
    | _ => none)
def e_ops (P : Program) (C : CallF) (Y : YieldF) (ops : Array Oper) : List Oper → XT → EH → Nat → Option (XT × EH × Nat)
  | [], t, h, n => some (t, h, n)
  | o :: l, t, h, n => match e_step P C Y ops o t h n with
    | some (t, h, n) => e_ops P C Y ops l t h n
    | none => none

abbrev RunF := Nat → Code → XS → Option (XE × XS)
def targs : Nat → List XA → XT → XT
  | _, [], t => t
  | i, x :: l, t => targs (i + 1) l (t.set i (.a x))
def resX (P : Program) (t : XT) (eh : EH) : ResultVar → Option XV
  | .tmp r => t.get r
  | .cell a ty => match tySize P ty, t.get a with
    | some (ag, k), some (.a a) => e_load ag k a eh
    | _, _ => none
def resXs (P : Program) (t : XT) (eh : EH) : List ResultVar → Option (List XA)
  | [] => some []
  | r :: rs => match resX P t eh r with
    | some (.a v) => (match resXs P t eh rs with | some l => some (v :: l) | none => none)
    | _ => none
def dropMarks : List Nat → EH → Option EH
  | [], eh => some eh
  | d :: ds, eh => match eh.get d with
    | some .defer => dropMarks ds (eh.set d .dead)
    | _ => none
def xret (P : Program) (rs : List ResultVar) (s : XS) : Res :=
  match dropMarks s.ms s.h with
  | none => none
  | some eh => match rs with
    | [r] => rV (resX P s.t eh r) eh s.n
    | rs => (match resXs P s.t eh rs with | some l => some (.tup l, eh, s.n) | none => none)
def okBody (fn : Func) (c : Code) : Bool := okCode fn.ntmps false c && fn.results.toList.all (okRes fn.ntmps)
def xbody (P : Program) (run : RunF) (mask : Nat) (fn : Func) (c : Code) (args : List XA) (eh : EH) (n : Nat) : Res :=
  bif okBody fn c && Nat.ble args.length fn.ntmps then
    (match run fn.ntmps c ⟨targs 0 args (XT.new mask), eh, n, []⟩ with
    | some (.normal, s) => xret P fn.results.toList s
    | some (.ret, s) => xret P fn.results.toList s
    | _ => none) else none
def xcall (P : Program) (S : CallF) (M : Nat → Nat) (run : RunF) : CallF := fun g args eh n =>
  match S g args eh n with
  | some r => some r
  | none => match P.funcs[g]? with
    | some fn => (match fn.body with
      | some c => xbody P run (M g) fn c args eh n
      | none => none)
    | none => none
def tro : XT → List Nat → List XA → XT
  | t, p :: ps, x :: xs => tro (t.set p (.a x)) ps xs
  | t, _, _ => t
def loopSet (eh : EH) (b : Nat) (st st' : LoopState) (pd : Option Code) : Option EH :=
  match eh.get b with
  | some (.loop s none t N ps assign body) => (match s, st with
    | .ready, .ready | .busy, .busy => some (eh.set b (.loop st' pd t N ps assign body))
    | _, _ => none)
  | _ => none
def xround (eh : EH) (b n : Nat) (st' : LoopState) (pd : Option Code) (r : Bool) : Res :=
  match loopSet eh b .busy st' pd with
  | some eh => some (.a (.c (.bool r)), eh, n)
  | none => none
def xyield (P : Program) (run : RunF) : YieldF := fun b args eh n =>
  match eh.get b with
  | some (.loop .ready none t N ps assign body) =>
    bif ps.toList.all (fun p => Nat.blt p N) && Nat.beq ps.size args.length && okCode N true assign && okCode N true body then
      (match run N assign ⟨(tro t ps.toList args).set N uX, eh, n, []⟩ with
      | some (.normal, s) => (match loopSet s.h b .ready .busy none with
        | some eh => (match run N body ⟨s.t, eh, s.n, s.ms⟩ with
          | some (.normal, s) => xround s.h b s.n .ready none true
          | some (.ret, s) => xround s.h b s.n .done (some .ret) false
          | some (.exit id, s) => xround s.h b s.n .done (some (.exit id)) false
          | none => none)
        | none => none)
      | _ => none) else none
  | _ => none
def ev (P : Program) (S : CallF) (M : Nat → Nat) : Nat → RunF
  | 0, _, _, _ => none
  | f + 1, N, c, s =>
    match c with
    | .skip => some (.normal, s)
    | .label _ => some (.normal, s)
    | .region _ ops draw => bif !draw || drawOk P ops then
        (match e_ops P (xcall P S M (ev P S M f)) (xyield P (ev P S M f)) ops ops.toList s.t.flush s.h s.n with
        | some (t, h, n) => some (.normal, ⟨t, h, n, s.ms⟩)
        | none => none) else
        (match e_any P (xcall P S M (ev P S M f)) (xyield P (ev P S M f)) ops s.t.flush s.h s.n with
        | some (t, h, n) => some (.normal, ⟨t, h, n, s.ms⟩)
        | none => none)
    | .seq a b => (match ev P S M f N a s with
      | some (.normal, s) => ev P S M f N b s
      | r => r)
    | .cond c x y => (match evA s.t c with
      | some (.c (.bool b)) => bif b then ev P S M f N x s else ev P S M f N y s
      | _ => none)
    | .block id c => (match ev P S M f N c s with
      | some (.exit j, s) => bif Nat.beq j id then some (.normal, s) else some (.exit j, s)
      | r => r)
    | .loop c => (match ev P S M f N c s with
      | some (.normal, s) => ev P S M f N (.loop c) s
      | r => r)
    | .exit id => some (.exit id, s)
    | .ret => some (.ret, s)
    | .rangeFunc g ps assign body => (match evA s.t g with
      | some (.c (.func (.func fid) ⟨first⟩ ⟨captured⟩)) => bif hasBody P fid then
          (match xcall P S M (ev P S M f) fid (first.map .c ++ [.c (.func (.yield (s.n + 1)) #[] #[])] ++ captured.map .c) ((s.h.set s.n .defer).set (s.n + 1) (.loop .ready none s.t N ps assign body)) (s.n + 2) with
          | some (_, eh, n) => (match eh.get (s.n + 1) with
            | some (.loop .ready none _ _ _ _ _) => some (.normal, ⟨s.t.set N .any, eh.set (s.n + 1) .dead, n, s.n :: s.ms⟩)
            | some (.loop .done (some .ret) _ _ _ _ _) => some (.ret, ⟨s.t.set N .any, eh.set (s.n + 1) .dead, n, s.n :: s.ms⟩)
            | some (.loop .done (some (.exit id)) _ _ _ _ _) => some (.exit id, ⟨s.t.set N .any, eh.set (s.n + 1) .dead, n, s.n :: s.ms⟩)
            | _ => none)
          | none => none) else none
      | _ => none)
    | _ => none

section
variable {P : Program}
def MR (ρ : Ren) (mk : List Nat) (v : Value) : Prop := All2 (fun d d' => ∃ τ, ρ d = some (d', τ)) mk (marks v)
theorem MR.mono {ρ ρ' : Ren} (hl : ρ.le ρ') {mk : List Nat} {v : Value} (h : MR ρ mk v) : MR ρ' mk v := h.mono2 fun _ _ ⟨τ, h⟩ => ⟨τ, hl _ _ h⟩
def SR (F : H) (ρ : Ren) (N : Nat) (s : XS) (T : T) (h : H) : Prop := XSim F ρ s.n s.h h ∧ TR ρ s.t T ∧ MR ρ s.ms (T N)
theorem SR.flush {F : H} {ρ : Ren} {N : Nat} {s : XS} {T : T} {h : H} (hs : SR F ρ N s T h) : SR F ρ N ⟨s.t.flush, s.h, s.n, s.ms⟩ T h := ⟨hs.1, fun i v hi => hs.2.1 i v (XT.get_flush hi), hs.2.2⟩
def RunOk (P : Program) (run : RunF) : Prop := ∀ N rd c s e s', run N c s = some (e, s') → okCode N rd c = true → ∀ (F : H) (ρ : Ren) (h : H) (T : T) (Q : Exit → AM.T → H → Prop), SR F ρ N s T h →
  (∀ ρ' T' h', ρ.le ρ' → SR F ρ' N s' T' h' → Q e.ex T' h') → awp P N c Q T h
theorem e_step_ok {C : CallF} {Y : YieldF} (hC : CallOk P C) (hY : YieldOk P Y) {ops : Array Oper} {i : Nat} {o : Oper} {N : Nat} {t : XT} {T : T} {eh : EH} {n : Nat} {h : H} {F : H} {ρ : Ren} {mk : List Nat} {r : XT × EH × Nat} {K : AM.T → H → Prop}
    (ho : ops[i]? = some o) (hok : okOper N o = true) (hs : SR F ρ N ⟨t, eh, n, mk⟩ T h) (he : e_step P C Y ops o t eh n = some r) (hk : ∀ ρ' T' h', ρ.le ρ' → SR F ρ' N ⟨r.1, r.2.1, r.2.2, mk⟩ T' h' → K T' h') : aStep P ops i K T h := by
  obtain ⟨h1, h2, h3⟩ := hs
  simp only at h1 h2 h3
  have hd : (match o.dst with | some d => Nat.blt d N | none => true) = true := by
    unfold okOper at hok
    simp only [Bool.and_eq_true] at hok
    exact hok.1.1
  have hop : ∀ v eh' n', e_op P C Y o.op t eh n = some (v, eh', n') → r = (xput t o.dst v, eh', n') → aop P o.op (aev T) h fun v h => K (tput T o.dst v) h := by
    intro v eh' n' hv hr
    subst hr
    refine e_op_ok hC hY h1 h2 hv fun ρ' v' h' hl hs' hv' => hk ρ' _ h' hl ⟨hs', (h2.mono hl).put hv', ?_⟩
    rw [tput_N hd]; exact h3.mono hl
  have hskip : r = (xput t o.dst uX, eh, n) → K (tput T o.dst undef) h := by
    intro hr
    subst hr
    refine hk ρ _ h (Ren.le_refl ρ) ⟨h1, h2.put undef_rv, ?_⟩
    rw [tput_N hd]; exact h3
  unfold aStep
  rw [ho]
  simp only
  unfold e_step at he
  split at he
  · rename_i hg
    simp only [hg]
    split at he
    · rename_i v eh' n' hv
      cases he
      exact hop _ _ _ hv rfl
    · cases he
  · rename_i j want hg
    simp only [hg]
    split at he
    · rename_i b hb
      have hgv := gv_ok h2 hb
      cases hgv with
      | a hgv =>
        have e := hgv.toC.self_eq rfl
        rw [e]
        unfold o_guard
        simp only
        cases hbw : b == want
        · rw [hbw, cond_false] at he
          rw [cond_false]
          cases he; exact hskip rfl
        · rw [hbw, cond_true] at he
          rw [cond_true]
          split at he
          · rename_i v eh' n' hv
            cases he
            exact hop _ _ _ hv rfl
          · cases he
    · rename_i l hb
      cases he
      have hgv := gv_ok h2 hb
      generalize guardVal ops j T = gvv at hgv
      cases hgv with
      | tup hgv => exact hskip rfl
    · cases he
theorem e_ops_ok {C : CallF} {Y : YieldF} (hC : CallOk P C) (hY : YieldOk P Y) {ops : Array Oper} {N : Nat} (hok : ops.toList.all (okOper N) = true) {mk : List Nat} {r : XT × EH × Nat} {K : AM.T → H → Prop} : ∀ (l : List Oper) (i : Nat) {t : XT} {T : T} {eh : EH} {n : Nat} {h : H} {F : H} {ρ : Ren},
    l = ops.toList.drop i → SR F ρ N ⟨t, eh, n, mk⟩ T h → e_ops P C Y ops l t eh n = some r → (∀ ρ' T' h', ρ.le ρ' → SR F ρ' N ⟨r.1, r.2.1, r.2.2, mk⟩ T' h' → K T' h') → aOps P ops (List.range' i l.length) K T h
  | [], i, t, T, eh, n, h, F, ρ, _, hs, he, hk => by
    simp only [e_ops] at he; cases he
    exact hk ρ T h (Ren.le_refl ρ) hs
  | o :: l, i, t, T, eh, n, h, F, ρ, hl, hs, he, hk => by
    have ho : ops.toList[i]? = some o := by
      have : (ops.toList.drop i)[0]? = some o := by rw [← hl]; rfl
      simpa using this
    have hoo : okOper N o = true := List.all_eq_true.1 hok o (List.mem_of_getElem? ho)
    simp only [e_ops] at he
    split at he
    · rename_i t' h' n' hst
      show aStep P ops i (aOps P ops (List.range' (i + 1) l.length) K) T h
      refine e_step_ok hC hY (by simpa using ho) hoo hs hst fun ρ' T' h'' hle hs' => ?_
      refine e_ops_ok hC hY hok l (i + 1) ?_ hs' he fun ρ'' T'' h3 hle' hs'' => hk ρ'' T'' h3 (Ren.le_trans hle hle') hs''
      have : (ops.toList.drop i).drop 1 = l := by rw [← hl]; rfl
      rw [← this, List.drop_drop]
    · cases he

/-! ### Calls -/
theorem targs_get : ∀ (args : List XA) (i : Nat) (t : XT) (j : Nat), (targs i args t).get j = if i ≤ j ∧ j < i + args.length then (args[j - i]?).map XV.a else t.get j
  | [], i, t, j => by
    simp only [targs, List.length_nil, Nat.add_zero]
    rw [if_neg (by omega)]
  | x :: l, i, t, j => by
    rw [targs, targs_get l (i + 1), XT.get_set]
    simp only [List.length_cons]
    by_cases h1 : i + 1 ≤ j ∧ j < i + 1 + l.length
    · rw [if_pos h1, if_pos (by omega)]
      obtain ⟨k, rfl⟩ : ∃ k, j = i + 1 + k := ⟨j - (i + 1), by omega⟩
      rw [show i + 1 + k - (i + 1) = k by omega, show i + 1 + k - i = k + 1 by omega]; rfl
    · rw [if_neg h1]
      by_cases h2 : j = i
      · subst h2
        rw [if_pos rfl, if_pos (by omega), Nat.sub_self]; rfl
      · rw [if_neg h2, if_neg (by omega)]
theorem targs_ok {ρ : Ren} {args : List XA} {args' : List Value} {m : Nat} (ha : All2 (RA ρ) args args') : TR ρ (targs 0 args (XT.new m)) (tinit args') := by
  intro i v hi
  rw [targs_get] at hi
  split at hi
  · rename_i hb
    simp only [Nat.sub_zero] at hi
    cases hx : args[i]? with
    | none => rw [hx] at hi; cases hi
    | some x =>
      rw [hx] at hi; cases hi
      obtain ⟨w, h1, h2⟩ := ha.get hx
      simp only [tinit, List.getD_eq_getElem?_getD, h1, Option.getD_some]
      exact .a h2
  · rw [XT.get_new] at hi; cases hi
theorem resX_ok {F : H} {ρ : Ren} {n : Nat} {eh : EH} {h : H} {t : XT} {T : T} (hs : XSim F ρ n eh h) (ht : TR ρ t T) {r : ResultVar} {x : XV} (he : resX P t eh r = some x) : ∃ v, resOf P T h r = some v ∧ RV ρ x v := by
  cases r with
  | tmp r => exact ⟨_, rfl, ht _ _ he⟩
  | cell a ty =>
    simp only [resX] at he
    split at he
    · rename_i ag k a' hty ha
      have hra := ht _ _ ha
      cases hra with
      | a hra =>
        have h0 := e_load_ok (K := fun v => RV ρ x v ∧ resOf P T h (.cell a ty) = some v ∨ RV ρ x v) hs hra he (fun u hu => .inr hu)
        unfold e_load at he
        split at he
        · rename_i b o
          split at he
          · rename_i q E m hg
            obtain ⟨b', t', hb, e⟩ := hra.toC.ptr
            obtain ⟨cs, h1, h2⟩ := hs.cells hg hb
            obtain ⟨w, h3, h4⟩ := partR_ok (cs := cs.toArray) (by simpa using h2) he
            refine ⟨w, ?_, h4⟩
            unfold partOf at h3
            simp only [resOf, hty, e]
            cases ag
            · simp only [cond_false] at h3 ⊢
              simpa [AM.cellAt, h1] using h3
            · simp only [cond_true] at h3 ⊢
              split at h3
              · rename_i hl
                cases h3
                have hl' : o + k ≤ cs.length := by simpa using hl
                simp only [AM.cellsAt, h1, hl', if_true]
                have e : ((cs.drop o).take k).toArray = cs.toArray.extract o (o + k) := by
                  simp [List.extract_eq_take_drop]
                rw [e]
              · cases h3
          · cases he
        · cases he
    · cases he
theorem resXs_ok {F : H} {ρ : Ren} {n : Nat} {eh : EH} {h : H} {t : XT} {T : T} (hs : XSim F ρ n eh h) (ht : TR ρ t T) : ∀ {rs : List ResultVar} {l : List XA}, resXs P t eh rs = some l → ∃ vs, resAll P T h rs = some vs ∧ All2 (RA ρ) l vs
  | [], l, he => by cases he; exact ⟨[], rfl, .nil⟩
  | r :: rs, l, he => by
    simp only [resXs] at he
    split at he
    · rename_i v hv
      split at he
      · rename_i l' hl
        cases he
        obtain ⟨w, h1, h2⟩ := resX_ok hs ht hv
        obtain ⟨vs, h3, h4⟩ := resXs_ok hs ht hl
        cases h2 with
        | a h2 => exact ⟨w :: vs, by simp only [resAll, h1, h3], .cons h2 h4⟩
      · cases he
    · cases he
theorem dropMarks_ok {F : H} {ρ : Ren} {n : Nat} : ∀ {ds : List Nat} {ds' : List Nat} {eh eh' : EH} {h : H}, XSim F ρ n eh h → All2 (fun d d' => ∃ τ, ρ d = some (d', τ)) ds ds' → dropMarks ds eh = some eh' →
    ds'.Nodup ∧ (∀ d ∈ ds', h d = some .defer) ∧ XSim F ρ n eh' (fun b => if b ∈ ds' then none else h b)
  | [], _, eh, eh', h, hs, .nil, he => by
    cases he
    exact ⟨List.nodup_nil, by simp, by simpa using hs⟩
  | d :: ds, d' :: ds', eh, eh', h, hs, .cons ⟨τ, hd⟩ ht, he => by
    simp only [dropMarks] at he
    split at he
    · rename_i hg
      obtain ⟨c, τ', o', h1, h2, h3⟩ := hs.obj d _ hg rfl
      rw [hd] at h1; cases h1
      cases h3
      obtain ⟨g1, g2, g3⟩ := dropMarks_ok (hs.del hg rfl hd) ht he
      have hnd : d' ∉ ds' := fun hm => by have := g2 d' hm; rw [del_same] at this; cases this
      refine ⟨List.nodup_cons.2 ⟨hnd, g1⟩, ?_, ?_⟩
      · intro x hx
        rcases List.mem_cons.1 hx with rfl | hx
        · exact h2
        · have := g2 x hx
          have hxe : x ≠ d' := fun e => hnd (by rw [e] at hx; exact hx)
          rw [del_ne _ hxe] at this
          exact this
      · have e : (fun b => if b ∈ ds' then none else del h d' b) = fun b => if b ∈ d' :: ds' then none else h b := by
          funext b
          by_cases hb : b = d'
          · subst hb; simp [del_same]
          · simp [hb, del_ne _ hb]
        rw [e] at g3; exact g3
    · cases he
theorem marks_nil_of {v : Value} {ds : List Nat} (h : marks v = ds) : marks v = ds := h
theorem xret_ok {F : H} {ρ : Ren} {N : Nat} {s : XS} {T : T} {h : H} {rs : List ResultVar} {r : XV × EH × Nat} (hs : SR F ρ N s T h) (he : xret P rs s = some r) {Q : Value → H → Prop} (hk : ∀ v h', XSim F ρ r.2.2 r.2.1 h' → RV ρ r.1 v → Q v h') : retCQ P N rs Q T h := by
  obtain ⟨h1, h2, h3⟩ := hs
  unfold xret at he
  split at he
  · cases he
  · rename_i eh hdm
    obtain ⟨g1, g2, g3⟩ := dropMarks_ok h1 h3 hdm
    have fin : ∀ h', XSim F ρ s.n eh h' → retC P rs Q T h' := by
      intro h' hs'
      unfold retC
      split at he
      · rename_i r1
        obtain ⟨v, hv, hr⟩ := rV_ok he
        subst hr
        obtain ⟨w, h4, h5⟩ := resX_ok hs' h2 hv
        simp only [resAll, h4]
        exact hk _ _ hs' h5
      · rename_i hn
        split at he
        · rename_i l hl
          cases he
          obtain ⟨vs, h4, h5⟩ := resXs_ok hs' h2 hl
          rw [h4]
          have hb := all_box h5
          have ht : Q (.tuple vs.toArray) h' := hk _ _ hs' (.tup (by simpa using h5))
          cases vs with
          | nil => exact ⟨hb, ht⟩
          | cons v vs => cases vs with
            | nil =>
              exfalso
              have hlen : rs.length = 1 := by
                have : ∀ (rs : List ResultVar) (vs : List Value), resAll P T h' rs = some vs → rs.length = vs.length := by
                  intro rs
                  induction rs with
                  | nil => intro vs h; cases h; rfl
                  | cons r rs ih =>
                    intro vs h
                    simp only [resAll] at h
                    split at h
                    · split at h
                      · rename_i hl; cases h; simp [ih _ hl]
                      · cases h
                    · cases h
                simpa using this _ _ h4
              cases rs with
              | nil => cases hlen
              | cons r rs => cases rs with
                | nil => exact hn r rfl
                | cons _ _ => cases hlen
            | cons v' vs => exact ⟨hb, ht⟩
        · cases he
    unfold retCQ
    split
    · rename_i hm
      rw [hm] at g3
      refine fin h ?_
      simpa using g3
    · rename_i ds hm hm2
      exact ⟨g1, g2, fin _ g3⟩
theorem xcall_ok (hm : P.follows .mixedOrders = true) {S : CallF} {M : Nat → Nat} {run : RunF} (hS : CallOk P S) (hR : RunOk P run) : CallOk P (xcall P S M run) := by
  intro f args eh n r he F ρ h args' hs ha
  unfold xcall at he
  split at he
  · rename_i r' hr
    cases he
    exact hS _ _ _ _ _ hr F ρ h args' hs ha
  · split at he
    · rename_i fn hf
      split at he
      · rename_i c hb
        unfold xbody at he
        cases hc : (okBody fn c && Nat.ble args.length fn.ntmps)
        · rw [hc] at he; cases he
        · rw [hc, cond_true] at he
          simp only [Bool.and_eq_true, okBody] at hc
          obtain ⟨⟨c1, c2⟩, c3⟩ := hc
          have c3 := ble_iff.1 c3
          have hl := ha.length
          have hs0 : SR F ρ fn.ntmps ⟨targs 0 args (XT.new (M f)), eh, n, []⟩ (tinit args') h := by
            refine ⟨hs, targs_ok ha, ?_⟩
            have h0 : tinit args' fn.ntmps = undef := by simp [tinit, ← hl, c3]
            rw [h0]; exact .nil
          refine spec_of_bodyC hm hf hb rfl c1 c2 (by omega) ?_
          split at he
          · rename_i s hrun
            exact hR _ _ _ _ _ _ hrun c1 F ρ h _ _ hs0 fun ρ' T' h' hle hs' => xret_ok hs' he fun v h'' g1 g2 => ⟨ρ', hle, g1, g2⟩
          · rename_i s hrun
            exact hR _ _ _ _ _ _ hrun c1 F ρ h _ _ hs0 fun ρ' T' h' hle hs' => xret_ok hs' he fun v h'' g1 g2 => ⟨ρ', hle, g1, g2⟩
          · cases he
      · cases he
    · cases he

/-! ### Rounds -/
theorem tro_ok {ρ : Ren} : ∀ {ps : List Nat} {xs : List XA} {xs' : List Value} {t : XT} {T : T}, TR ρ t T → All2 (RA ρ) xs xs' → TR ρ (tro t ps xs) ((ps.zip xs').foldl (fun t p => tset t p.1 p.2) T)
  | [], _, _, t, T, ht, _ => by
    have : ∀ xs, tro t [] xs = t := by intro xs; cases xs <;> rfl
    rw [this]; exact ht
  | p :: ps, _, _, t, T, ht, .nil => ht
  | p :: ps, _, _, t, T, ht, .cons h hs => by
    simp only [tro, List.zip_cons_cons, List.foldl_cons]
    exact tro_ok (ht.put (d := some p) (.a h)) hs
theorem loopSet_ok {F : H} {ρ : Ren} {n : Nat} {eh eh' : EH} {h : H} {b b' : Nat} {L : LObj} {st st' : LoopState} {pd : Option Code} (hs : XSim F ρ n eh h) (hb : ρ b = some (b', L)) (he : loopSet eh b st st' pd = some eh') :
    h b' = some (L st none) ∧ XSim F ρ n eh' (upd h b' (L st' pd)) := by
  unfold loopSet at he
  split at he
  · rename_i s t N ps assign body hg
    obtain ⟨c, τ, o', h1, h2, h3⟩ := hs.obj b _ hg rfl
    rw [hb] at h1; cases h1
    cases h3 with
    | loop hL ht =>
      split at he
      · cases he; subst hL
        exact ⟨h2, hs.upd hg rfl hb (.loop rfl ht)⟩
      · cases he; subst hL
        exact ⟨h2, hs.upd hg rfl hb (.loop rfl ht)⟩
      · cases he
  · cases he
theorem xround_ok {F : H} {ρ : Ren} {eh : EH} {h : H} {b b' n : Nat} {L : LObj} {st' : LoopState} {pd : Option Code} {q : Bool} {r : XV × EH × Nat} (hs : XSim F ρ n eh h) (hb : ρ b = some (b', L)) (he : xround eh b n st' pd q = some r) :
    h b' = some (L .busy none) ∧ XSim F ρ r.2.2 r.2.1 (upd h b' (L st' pd)) ∧ RV ρ r.1 (.bool q) := by
  unfold xround at he
  split at he
  · rename_i eh' hl
    cases he
    obtain ⟨h1, h2⟩ := loopSet_ok hs hb hl
    exact ⟨h1, h2, bool_rv _⟩
  · cases he
theorem xyield_ok (hm : P.follows .mixedOrders = true) {run : RunF} (hR : RunOk P run) : YieldOk P (xyield P run) := by
  intro b args eh n r he F ρ h args' b' L hs hb ha
  unfold xyield at he
  split at he
  · rename_i t N ps assign body hg
    obtain ⟨c, τ, o', h1, h2, h3⟩ := hs.obj b _ hg rfl
    rw [hb] at h1; cases h1
    cases h3 with
    | loop hL ht =>
      rename_i T
      subst hL
      cases hc : (ps.toList.all (fun p => Nat.blt p N) && Nat.beq ps.size args.length && okCode N true assign && okCode N true body)
      · rw [hc] at he; cases he
      · rw [hc, cond_true] at he
        simp only [Bool.and_eq_true] at hc
        obtain ⟨⟨⟨c1, c2⟩, c3⟩, c4⟩ := hc
        have c2 := Nat.eq_of_beq_eq_true c2
        refine yspec_of hm h2 c1 (by rw [c2, ha.length]) c3 c4 ?_
        have hs0 : SR F ρ N ⟨(tro t ps.toList args).set N uX, eh, n, []⟩ (tround N T ps args') h := by
          refine ⟨hs, ?_, ?_⟩
          · intro i v hi
            unfold tround
            simp only [tset]
            rw [XT.get_set] at hi
            by_cases e : i = N
            · subst e
              rw [if_pos rfl] at hi; cases hi
              rw [Nat.beq_refl, cond_true]
              exact undef_rv
            · rw [if_neg e] at hi
              have : Nat.beq i N = false := Bool.eq_false_iff.2 fun h => e (Nat.eq_of_beq_eq_true h)
              rw [this, cond_false]
              exact tro_ok ht ha _ _ hi
          · have : tround N T ps args' N = undef := by simp [tround, tset, Nat.beq_refl]
            rw [this]; exact .nil
        split at he
        · rename_i s hrun
          refine hR _ _ _ _ _ _ hrun c3 F ρ h _ _ hs0 fun ρ1 T1 h1 hle1 hs1 => ?_
          split at he
          · rename_i eh1 hl1
            obtain ⟨g1, g2⟩ := loopSet_ok hs1.1 (hle1 _ _ hb) hl1
            refine ⟨g1, ?_⟩
            have hs2 : SR F ρ1 N ⟨s.t, eh1, s.n, s.ms⟩ T1 _ := ⟨g2, hs1.2.1, hs1.2.2⟩
            split at he
            · rename_i s2 hrun2
              refine hR _ _ _ _ _ _ hrun2 c4 F ρ1 _ _ _ hs2 fun ρ2 T2 h2 hle2 hs3 => ?_
              obtain ⟨k1, k2, k3⟩ := xround_ok hs3.1 (hle2 _ _ (hle1 _ _ hb)) he
              exact ⟨k1, ρ2, Ren.le_trans hle1 hle2, k2, k3⟩
            · rename_i s2 hrun2
              refine hR _ _ _ _ _ _ hrun2 c4 F ρ1 _ _ _ hs2 fun ρ2 T2 h2 hle2 hs3 => ?_
              obtain ⟨k1, k2, k3⟩ := xround_ok hs3.1 (hle2 _ _ (hle1 _ _ hb)) he
              exact ⟨k1, ρ2, Ren.le_trans hle1 hle2, k2, k3⟩
            · rename_i id s2 hrun2
              refine hR _ _ _ _ _ _ hrun2 c4 F ρ1 _ _ _ hs2 fun ρ2 T2 h2 hle2 hs3 => ?_
              obtain ⟨k1, k2, k3⟩ := xround_ok hs3.1 (hle2 _ _ (hle1 _ _ hb)) he
              exact ⟨k1, ρ2, Ren.le_trans hle1 hle2, k2, k3⟩
            · cases he
          · cases he
        · cases he
  · cases he
/-! ### Code -/
theorem any_text {ops : Array Oper} (hd : drawOk P ops = true) {K : T → H → Prop} {t : T} {h : H} (hx : aOps P ops (List.range ops.size) K t h) : aAny P ops K ops.size (Array.replicate ops.size false) t h := by
  have hr : restL ops.size (Array.replicate ops.size false) = List.range ops.size := by
    unfold restL
    refine List.filter_eq_self.2 fun j hj => ?_
    have := List.mem_range.1 hj
    simp [Array.getD, this]
  exact any_of_text (ops := ops) hd _ _ (by simp) (by rw [hr]; simp) (by rw [hr]; exact hx)
theorem ev_ok (hm : P.follows .mixedOrders = true) {S : CallF} {M : Nat → Nat} (hS : CallOk P S) : ∀ f, RunOk P (ev P S M f) := by
  intro f
  induction f using Nat.strongRecOn with
  | ind f ihs =>
  cases f with
  | zero => intro N rd c s e s' he; cases he
  | succ f =>
    have ih := ihs f (Nat.lt_succ_self f)
    have ihC : CallOk P (xcall P S M (ev P S M f)) := xcall_ok hm hS ih
    have ihY : YieldOk P (xyield P (ev P S M f)) := xyield_ok hm ih
    intro N rd c s e s' he hok F ρ h T Q hs hk
    cases c <;> simp only [ev] at he <;> try (cases he; done)
    · cases he; exact hk ρ T h (Ren.le_refl ρ) hs
    · rename_i id ops draw
      cases hdr : (!draw || drawOk P ops)
      · rw [hdr, cond_false] at he
        split at he
        · rename_i t h' n' hany
          cases he
          have hall : ops.toList.all (okOper N) = true := hok
          cases draw with
          | false => cases hdr
          | true =>
            show bif true then _ else _
            rw [cond_true]
            obtain ⟨hs1, hs2, hs3⟩ := hs.flush
            refine e_any_ok ihC ihY hall hs1 hs2 hany fun ρ' T' h'' hle hs' ht' hN => hk ρ' T' h'' hle ⟨hs', ht', ?_⟩
            rw [hN]; exact hs3.mono hle
        · cases he
      · rw [hdr, cond_true] at he
        split at he
        · rename_i t h' n' hops
          cases he
          have hall : ops.toList.all (okOper N) = true := hok
          have hmain : aOps P ops (List.range ops.size) (Q .normal) T h := by
            have := e_ops_ok ihC ihY hall (K := Q .normal) (mk := s.ms) ops.toList 0 (by simp) hs.flush hops fun ρ' T' h'' hle hs' => hk ρ' T' h'' hle hs'
            rw [List.range_eq_range']
            simpa using this
          show bif draw then _ else _
          cases draw with
          | false => exact hmain
          | true =>
            rw [Bool.not_true, Bool.false_or] at hdr
            rw [cond_true]
            exact any_text hdr hmain
        · cases he
    · rename_i a b
      have hok' : okCode N rd a = true ∧ okCode N rd b = true := by
        simpa [okCode] using hok
      show awp P N a (athen (awp P N b Q) Q) T h
      split at he
      · rename_i s1 h1
        refine ih _ _ _ _ _ _ h1 hok'.1 F ρ h T _ hs fun ρ1 T1 h2 hle1 hs1 => ?_
        exact ih _ _ _ _ _ _ he hok'.2 F ρ1 h2 T1 _ hs1 fun ρ2 T2 h3 hle2 hs2 => hk ρ2 T2 h3 (Ren.le_trans hle1 hle2) hs2
      · rename_i hn
        refine ih _ _ _ _ _ _ he hok'.1 F ρ h T _ hs fun ρ1 T1 h2 hle1 hs1 => ?_
        have := hk ρ1 T1 h2 hle1 hs1
        cases e with
        | normal => exact (hn s' he).elim
        | ret => exact this
        | exit j => exact this
    · rename_i c x y
      have hok' : okCode N rd x = true ∧ okCode N rd y = true := by
        simp only [okCode, Bool.and_eq_true] at hok
        exact ⟨hok.1.2, hok.2⟩
      split at he
      · rename_i b hb
        have := (evA_ok hs.2.1 hb).toC.self_eq rfl
        show o_if (aev T c) (awp P N x Q T h) (awp P N y Q T h)
        rw [this, if_bool]
        cases b
        · exact ih _ _ _ _ _ _ he hok'.2 F ρ h T _ hs hk
        · exact ih _ _ _ _ _ _ he hok'.1 F ρ h T _ hs hk
      · cases he
    · rename_i id c
      have hok' : okCode N rd c = true := hok
      show awp P N c (ablock id Q) T h
      split at he
      · rename_i j s1 h1
        refine ih _ _ _ _ _ _ h1 hok' F ρ h T _ hs fun ρ1 T1 h2 hle1 hs1 => ?_
        show (bif Nat.beq j id then Q .normal else Q (.exit j)) T1 h2
        cases hb : Nat.beq j id
        · rw [hb] at he; cases he
          exact hk ρ1 T1 h2 hle1 hs1
        · rw [hb] at he; cases he
          exact hk ρ1 T1 h2 hle1 hs1
      · rename_i hn
        refine ih _ _ _ _ _ _ he hok' F ρ h T _ hs fun ρ1 T1 h2 hle1 hs1 => ?_
        have := hk ρ1 T1 h2 hle1 hs1
        cases e with
        | normal => exact this
        | ret => exact this
        | exit j => exact (hn j s' he).elim
    · rename_i c
      have hok' : okCode N rd c = true := hok
      show sloop (fun t h K => awp P N c (athen K Q) t h) T h
      have step : ∀ g, RunOk P (ev P S M g) → ∀ s1, ev P S M (g + 1) N (.loop c) s1 = some (e, s') → ∀ ρ1 h1 T1, ρ.le ρ1 → SR F ρ1 N s1 T1 h1 → awp P N c (athen (fun T2 h2 => ∃ s2 ρ2, ρ.le ρ2 ∧ SR F ρ2 N s2 T2 h2 ∧ ev P S M g N (.loop c) s2 = some (e, s')) Q) T1 h1 := by
        intro g ihg s1 he1 ρ1 h1 T1 hle1 hs1
        simp only [ev] at he1
        split at he1
        · rename_i s2 hc
          exact ihg _ _ _ _ _ _ hc hok' F ρ1 h1 T1 _ hs1 fun ρ2 T2 h2 hle2 hs2 => ⟨s2, ρ2, Ren.le_trans hle1 hle2, hs2, he1⟩
        · rename_i hn
          refine ihg _ _ _ _ _ _ he1 hok' F ρ1 h1 T1 _ hs1 fun ρ2 T2 h2 hle2 hs2 => ?_
          have := hk ρ2 T2 h2 (Ren.le_trans hle1 hle2) hs2
          cases e with
          | normal => exact (hn s' he1).elim
          | ret => exact this
          | exit j => exact this
      refine ⟨fun m T1 h1 => m ≤ f + 1 ∧ ∃ s1 ρ1, ρ.le ρ1 ∧ SR F ρ1 N s1 T1 h1 ∧ ev P S M m N (.loop c) s1 = some (e, s'), ⟨f + 1, Nat.le_refl _, s, ρ, Ren.le_refl ρ, hs, by simp only [ev]; exact he⟩, ?_⟩
      rintro m T1 h1 ⟨hmf, s1, ρ1, hle1, hs1, he1⟩
      cases m with
      | zero => cases he1
      | succ m => exact awp_mono c (fun e T2 h2 hq => by cases e <;> first | exact hq | exact ⟨m, Nat.lt_succ_self m, by omega, hq⟩) (step m (ihs m (by omega)) s1 he1 ρ1 h1 T1 hle1 hs1)
    · rename_i g ps assign body
      cases rd with
      | true => simp [okCode] at hok
      | false =>
      split at he
      · rename_i fid first captured hg
        cases hb : hasBody P fid
        · rw [hb] at he; cases he
        · rw [hb, cond_true] at he
          split at he
          · rename_i v eh n hcall
            intro l d hl2 hd2 hld hl hd
            obtain ⟨hs1, hs2, hs3⟩ := hs
            have hgr := (evA_ok hs2 hg).toC
            -- the two names
            obtain ⟨q1, q2⟩ := hs1.new (o := .defer) (o' := .defer) hd2 hd undefT rfl .defer
            have hl' : upd h d .defer l = none := by rw [upd_ne _ _ hld]; exact hl
            have hro : RO (fun b => if b = s.n + 1 then some (l, fun s p => AObj.loop s p T N ps assign body) else (fun b => if b = s.n then some (d, undefT) else ρ b) b) (fun s p => .loop s p T N ps assign body) (.loop .ready none s.t N ps assign body) (.loop .ready none T N ps assign body) := by
              refine .loop rfl ((hs2.mono q1).mono (le_new q2))
            obtain ⟨q3, q4⟩ := q2.new (o := .loop .ready none s.t N ps assign body) (o' := .loop .ready none T N ps assign body) hl2 hl' (fun s p => .loop s p T N ps assign body) rfl hro
            revert hro q4 q3
            generalize hρ3 : (fun b => if b = s.n + 1 then some (l, fun s p => AObj.loop s p T N ps assign body) else (fun b => if b = s.n then some (d, undefT) else ρ b) b) = ρ3
            intro hro q3 q4
            have hle3 : ρ.le ρ3 := Ren.le_trans q1 q3
            have hln : ρ3 (s.n + 1) = some (l, fun s p => .loop s p T N ps assign body) := by rw [← hρ3]; simp
            have hdn : ρ3 s.n = some (d, undefT) := by rw [← hρ3]; simp
            have key : ∀ xs ys, All2 (RS ρ) first xs → All2 (RS ρ) captured ys → Spec P fid (xs ++ [.func (.yield l) #[] #[]] ++ ys) (upd (upd h d .defer) l (.loop .ready none T N ps assign body)) fun _ h' =>
                match h' l with
                | some (.loop .ready none _ _ _ _ _) => Q .normal (tset T N (addMark (T N) d)) (del h' l)
                | some (.loop .done (some .ret) _ _ _ _ _) => Q .ret (tset T N (addMark (T N) d)) (del h' l)
                | some (.loop .done (some (.exit id)) _ _ _ _ _) => Q (.exit id) (tset T N (addMark (T N) d)) (del h' l)
                | _ => False := by
              intro xs ys hx hy
              have hargs : All2 (RA ρ3) (first.map .c ++ [.c (.func (.yield (s.n + 1)) #[] #[])] ++ captured.map .c) (xs ++ [.func (.yield l) #[] #[]] ++ ys) := by
                refine ((rs_ra (hx.mono2 fun _ _ hh => hh.mono hle3)).append (.cons (.c (.yield hln)) .nil)).append (rs_ra (hy.mono2 fun _ _ hh => hh.mono hle3))
              refine (ihC _ _ _ _ _ hcall F ρ3 _ _ q4 hargs).mono ?_
              rintro v' h' ⟨ρ4, k1, k2, k3⟩
              simp only at k2 k3
              have fin : ∀ st pd t N' ps' a' b', eh.get (s.n + 1) = some (.loop st pd t N' ps' a' b') → h' l = some (.loop st pd T N ps assign body) ∧ SR F ρ4 N ⟨s.t.set N .any, eh.set (s.n + 1) .dead, n, s.n :: s.ms⟩ (tset T N (addMark (T N) d)) (del h' l) := by
                intro st pd t N' ps' a' b' hge
                obtain ⟨c, τ, o', g1, g2, g3⟩ := k2.obj _ _ hge rfl
                rw [k1 _ _ hln] at g1; cases g1
                cases g3 with
                | loop hL hT =>
                  have := congrFun (congrFun hL st) pd
                  refine ⟨by rw [this]; exact g2, k2.del hge rfl (k1 _ _ hln), ?_, ?_⟩
                  · intro i v hi
                    simp only [tset]
                    rw [XT.get_set] at hi
                    by_cases e : i = N
                    · rw [if_pos e] at hi; cases hi; exact .any
                    · rw [if_neg e] at hi
                      have : Nat.beq i N = false := Bool.eq_false_iff.2 fun h => e (Nat.eq_of_beq_eq_true h)
                      rw [this, cond_false]
                      exact (hs2.mono (Ren.le_trans hle3 k1)) _ _ hi
                  · simp only [tset, Nat.beq_refl, cond_true]
                    unfold MR
                    rw [marks_add]
                    exact .cons ⟨_, k1 _ _ hdn⟩ (hs3.mono (Ren.le_trans hle3 k1))
              split at he
              · rename_i hge
                cases he
                obtain ⟨f1, f2⟩ := fin _ _ _ _ _ _ _ hge
                rw [f1]
                exact hk ρ4 _ _ (Ren.le_trans hle3 k1) f2
              · rename_i hge
                cases he
                obtain ⟨f1, f2⟩ := fin _ _ _ _ _ _ _ hge
                rw [f1]
                exact hk ρ4 _ _ (Ren.le_trans hle3 k1) f2
              · rename_i hge
                cases he
                obtain ⟨f1, f2⟩ := fin _ _ _ _ _ _ _ hge
                rw [f1]
                exact hk ρ4 _ _ (Ren.le_trans hle3 k1) f2
              · cases he
            generalize aev T g = gvv at hgr ⊢
            unfold o_rangeCall
            cases hgr with
            | s hc => cases hc with
              | self hself =>
                simp [selfC] at hself
                obtain ⟨rfl, rfl⟩ := hself
                exact ⟨hb, key [] [] .nil .nil⟩
            | func _ h1 h2 => exact ⟨hb, key _ _ h1 h2⟩
          · cases he
      · cases he
    · cases he; exact hk ρ T h (Ren.le_refl ρ) hs
    · cases he; exact hk ρ T h (Ren.le_refl ρ) hs
    · cases he; exact hk ρ T h (Ren.le_refl ρ) hs
end
end
end Go.Proofs.YtbmfblmebhobiaaGreat.AM

