/-
  A function's contract over the abstract memory, out of its body; a round's; what follows for the model's calls.
-/
import Derived.Test.YtjdhldfeflmneaaGreatAMCode2
set_option linter.unusedSimpArgs false
set_option linter.unusedVariables false
namespace Go.Proofs.YtjdhldfeflmneaaGreat.AM
open Go.RowKit

section
variable {P : Program} {W : World}

theorem tinit_rel {ι : Env} {args : List Value} {cargs : Array Value} {N : Nat} (ha : All2 (ARel ι) args cargs.toList) (hN : args.length ≤ N) :
    TRel ι N (tinit args) (cargs ++ Array.replicate (N - cargs.size) undef) := by
  have hl : args.length = cargs.size := by simpa using ha.length
  refine ⟨by simp; omega, fun i hi => ?_⟩
  unfold tinit
  simp only [List.getD_eq_getElem?_getD, Array.getD_eq_getD_getElem?]
  by_cases hlt : i < args.length
  · obtain ⟨cv, h1, h2⟩ := ha.get (List.getElem?_eq_getElem hlt)
    have h1' : cargs[i]? = some cv := by simpa using h1
    rw [List.getElem?_eq_getElem hlt, Array.getElem?_append_left (by omega), h1']
    exact .a h2
  · rw [List.getElem?_eq_none (by omega), Array.getElem?_append_right (by omega)]
    have : (Array.replicate (N - cargs.size) undef)[i - cargs.size]? = some undef := by
      rw [Array.getElem?_replicate, if_pos (by omega)]
    rw [this]
    exact VRel.undef

theorem mapM_tmp (rs : List Nat) (tmps : Array Value) (w : World) : (rs.mapM (fun r => (pure (tmps.getD r undef) : Sem Value))).run P w = .ok (rs.map fun r => tmps.getD r undef) w := by
  induction rs with
  | nil => rfl
  | cons r rs ih =>
    rw [List.mapM_cons]
    simp only [Sem.run_bind, Sem.run_pure, Result.andThen_ok, ih, List.map_cons]
theorem run_results {fn : Func} {rs : List Nat} (hrs : fn.results = (rs.map ResultVar.tmp).toArray) (tmps : Array Value) (w : World) :
    (results fn tmps).run P w = .ok (match rs.map fun r => tmps.getD r undef with | [v] => v | vs => .tuple vs.toArray) w := by
  unfold results
  have h1 : (Array.mapM (fun x : ResultVar => match x with | .tmp t => (pure (tmps.getD t undef) : Sem Value) | .cell a t => do loadVar t (← asAddr (tmps.getD a undef))) fn.results).run P w = Result.ok (rs.map fun r => tmps.getD r undef).toArray w := by
    rw [Array.mapM_eq_mapM_toList, hrs]
    simp only [List.mapM_map, Function.comp_def]
    simp
  rw [Sem.run_bind]
  refine (congrArg (fun r => Result.andThen r _) h1).trans ?_
  simp only [Result.andThen_ok, Sem.run_pure]
  cases rs with
  | nil => simp
  | cons r rs => cases rs with
    | nil => simp
    | cons r' rs => simp

theorem leaves_marks {fn : Func} {tmps : Array Value} {R : Ending → World → Prop} {ι : Env} : ∀ (ds : List Nat) (dfs : List Deferred) {h : H} {w : World}, All2 (MarkIs ι) ds dfs → HRel P W ι h w → (∀ d ∈ ds, h d = some .defer) → ds.Nodup →
    (∀ w, HRel P W ι (fun b => if b ∈ ds then none else h b) w → LeavesIn Fence.wide 0 P fn tmps R [] .returning w) → LeavesInM Fence.wide 0 P fn tmps R dfs .returning w
  | [], dfs, h, w, hm, hr, _, _, hk => by
    cases hm
    exact hk w (by simpa using hr)
  | d :: ds, dfs, h, w, hm, hr, hd, hn, hk => by
    cases hm with
    | cons hm hms =>
      rename_i df dfs
      obtain ⟨l, hl, rfl⟩ := hm
      refine ⟨by simp, .inl ⟨l.b, setBlk w l.b (.deferred none), rfl, ?_, ?_⟩⟩
      · obtain ⟨_, _, h1⟩ := hr.obj' (hd d (by simp)) hl
        exact run_takeDeferred h1
      · obtain ⟨hB, _, h1⟩ := hr.obj' (hd d (by simp)) hl
        have hnd := List.nodup_cons.1 hn
        have hlt := hr.inb d l hl
        have hr' : HRel P W ι (del h d) (setBlk w l.b (.deferred none)) := by
          refine (hr.drop (h' := del h d) fun c oc hc => ?_).away hB (setBlk_size _ _ _) (fun c hc => setBlk_ne _ _ hc) rfl rfl rfl ?_ ?_
          · unfold del at hc; split at hc
            · cases hc
            · exact hc
          · intro c oc lc hc hlc hx he
            have hcd : c ≠ d := by rintro rfl; rw [del_same] at hc; cases hc
            rw [del_ne _ hcd] at hc
            exact hr.sep c d oc _ lc l hcd hc (hd d (by simp)) hlc hl hx rfl he
          · intro ces clock he
            rw [setBlk_same _ _ hlt] at he; cases he
        refine leaves_marks ds dfs hms hr' (fun x hx => ?_) hnd.2 fun w' hw' => hk w' ?_
        · rw [del_ne _ (by rintro rfl; exact hnd.1 hx)]; exact hd x (by simp [hx])
        · have e : (fun b => if b ∈ ds then none else del h d b) = fun b => if b ∈ d :: ds then none else h b := by
            funext b
            by_cases hb : b = d
            · subst hb; simp [del_same]
            · simp [hb, del_ne _ hb]
          rw [e] at hw'; exact hw'

theorem retV_rel {ι ι' : Env} {N : Nat} {rs : List Nat} {Q : Value → H → Prop} {t : T} {h : H} {tmps : Array Value} {w : World} (hle : Env.le ι ι') (hr : HRel P W ι' h w) (ht : TRel ι' N t tmps) (hN : rs.all (fun r => Nat.blt r N) = true) (hk : retV rs Q t h) :
    Post P W ι Q (.returned (match rs.map fun r => tmps.getD r undef with | [v] => v | vs => .tuple vs.toArray)) w := by
  have tup : ∀ rs : List Nat, rs.all (fun r => Nat.blt r N) = true → rs.all (fun r => boxV (t r)) = true → All2 (ARel ι') (rs.map t) (rs.map fun r => tmps.getD r undef) := by
    intro rs
    induction rs with
    | nil => intro _ _; exact .nil
    | cons r rs ih =>
      intro h1 h2
      simp only [List.all_cons, Bool.and_eq_true] at h1 h2
      exact .cons ((ht.2 r (blt_lt h1.1)).toA h2.1) (ih h1.2 h2.2)
  unfold retV at hk
  split at hk
  · rename_i r
    simp only [List.all_cons, List.all_nil, Bool.and_true] at hN
    exact ⟨t r, _, ι', h, rfl, hle, hr, ht.2 r (blt_lt hN), hk⟩
  · rename_i hns
    cases hb : rs.all (fun r => boxV (t r)) with
    | false => rw [hb, cond_false] at hk; exact hk.elim
    | true =>
      rw [hb, cond_true] at hk
      refine ⟨.tuple (rs.map t).toArray, _, ι', h, rfl, hle, hr, ?_, hk⟩
      have := VRel.tuple (ι := ι') (xs := (rs.map t).toArray) (ys := (rs.map fun r => tmps.getD r undef).toArray) (by simpa using tup rs hN hb)
      cases rs with
      | nil => exact this
      | cons r rs => cases rs with
        | nil => exact absurd rfl (hns r)
        | cons r' rs => exact this

theorem spec_of_body (hm : P.follows .mixedOrders = true) {f : FuncId} {fn : Func} {c : Code} {rs : List Nat} {N : Nat} {args : List Value} {h : H} {Q : Value → H → Prop} (hf : P.funcs[f]? = some fn) (hb : fn.body = some c)
    (hrs : fn.results = (rs.map ResultVar.tmp).toArray) (hn : fn.ntmps = N) (hok : okCode N false c = true) (hrN : rs.all (fun r => Nat.blt r N) = true) (hlen : args.length ≤ N) (hk : awp P N c (bodyQ N rs Q) (tinit args) h) : Spec P f args h Q := by
  intro W ι w cargs hr ha
  subst hn
  refine (callsIn_wide (n := 0)).1 (callsIn_of_wp_marks hf hb trivial ?_)
  have h0 : tinit args fn.ntmps = undef := by simp [tinit, hlen]
  have hmk : marks undef = [] := rfl
  refine wpIn_mono (awp_sound (D := none) hm (.inl rfl) false (fun _ => ⟨rfl, rfl⟩) c hok hr (tinit_rel ha hlen) (by rw [h0]; exact .nil) hk) ?_
  intro e a' w' hc
  have fin : ∀ t' h' ι', Env.le ι ι' → HRel P W ι' h' w' → TRel ι' fn.ntmps t' a'.tmps → DRel ι' (t' fn.ntmps) a'.defers → retQ fn.ntmps rs Q t' h' → LeavesInM Fence.wide 0 P fn a'.tmps (Post P W ι Q) a'.defers .returning w' := by
    intro t' h' ι' k1 k2 k3 k4 k5
    unfold retQ at k5
    split at k5
    · rename_i hmk'
      unfold DRel at k4
      rw [hmk'] at k4
      generalize a'.defers = dfs at *
      cases k4
      exact ⟨_, run_results hrs _ _, retV_rel k1 k2 k3 hrN k5⟩
    · obtain ⟨k6, k7, k8⟩ := k5
      exact leaves_marks _ _ k4 k2 k7 k6 fun w'' hw'' => ⟨_, run_results hrs _ _, retV_rel k1 hw'' k3 hrN k8⟩
  cases e with
  | normal => obtain ⟨ι', t', h', k1, k2, k3, k4, k5⟩ := hc; exact fin t' h' ι' k1 k2 k3 k4 k5
  | ret => obtain ⟨ι', t', h', k1, k2, k3, k4, k5⟩ := hc; exact fin t' h' ι' k1 k2 k3 k4 k5
  | exit id => obtain ⟨_, _, _, _, _, _, _, k5⟩ := hc; exact k5.elim
  | goto l => obtain ⟨_, _, _, _, _, _, _, k5⟩ := hc; exact k5.elim
  | panic ch => obtain ⟨_, _, _, _, _, _, _, k5⟩ := hc; exact k5.elim
  | outgrown => obtain ⟨_, _, _, _, _, _, _, k5⟩ := hc; exact k5.elim

/-- The same for a body without a range over a function. -/
def plainQ (rs : List Nat) (Q : Value → H → Prop) : Exit → T → H → Prop
  | .normal, t, h | .ret, t, h => retV rs Q t h
  | _, _, _ => False
theorem spec_plain (hm : P.follows .mixedOrders = true) {f : FuncId} {fn : Func} {c : Code} {rs : List Nat} {N : Nat} {args : List Value} {h : H} {Q : Value → H → Prop} (hf : P.funcs[f]? = some fn) (hb : fn.body = some c)
    (hrs : fn.results = (rs.map ResultVar.tmp).toArray) (hn : fn.ntmps = N) (hok : okCode N true c = true) (hrN : rs.all (fun r => Nat.blt r N) = true) (hlen : args.length ≤ N) (hk : awp P N c (plainQ rs Q) (tinit args) h) : Spec P f args h Q := by
  intro W ι w cargs hr ha
  subst hn
  refine (callsIn_wide (n := 0)).1 (callsIn_of_wp hf hb trivial ?_)
  refine wpIn_mono (awp_sound (D := some []) hm (.inl rfl) true (fun h => by cases h) c hok hr (tinit_rel ha hlen) rfl hk) ?_
  intro e a' w' hc
  have fin : ∀ t' h' ι', Env.le ι ι' → HRel P W ι' h' w' → TRel ι' fn.ntmps t' a'.tmps → a'.defers = [] → retV rs Q t' h' → a'.defers = [] ∧ ∃ v, (results fn a'.tmps).run P w' = .ok v w' ∧ Post P W ι Q (.returned v) w' := by
    intro t' h' ι' k1 k2 k3 k4 k5
    exact ⟨k4, _, run_results hrs _ _, retV_rel k1 k2 k3 hrN k5⟩
  cases e with
  | normal => obtain ⟨ι', t', h', k1, k2, k3, k4, k5⟩ := hc; exact fin t' h' ι' k1 k2 k3 k4 k5
  | ret => obtain ⟨ι', t', h', k1, k2, k3, k4, k5⟩ := hc; exact fin t' h' ι' k1 k2 k3 k4 k5
  | exit id => obtain ⟨_, _, _, _, _, _, _, k5⟩ := hc; exact k5.elim
  | goto l => obtain ⟨_, _, _, _, _, _, _, k5⟩ := hc; exact k5.elim
  | panic ch => obtain ⟨_, _, _, _, _, _, _, k5⟩ := hc; exact k5.elim
  | outgrown => obtain ⟨_, _, _, _, _, _, _, k5⟩ := hc; exact k5.elim

/-! ### A round -/
theorem tround_rel {ι : Env} {N : Nat} {t : T} {tmps : Array Value} (ht : TRel ι N t tmps) : ∀ (ps : List Tmp) (args : List Value) (cargs : List Value), All2 (ARel ι) args cargs → ps.all (fun p => Nat.blt p N) = true →
    TRel ι N ((ps.zip args).foldl (fun t p => tset t p.1 p.2) t) ((ps.zip cargs).foldl (fun tmps p => tmps.setIfInBounds p.1 p.2) tmps) := by
  intro ps
  induction ps generalizing t tmps with
  | nil => intro args cargs _ _; exact ht
  | cons p ps ih =>
    intro args cargs ha hp
    simp only [List.all_cons, Bool.and_eq_true] at hp
    cases ha with
    | nil => exact ht
    | cons hv ha =>
      simp only [List.zip_cons_cons, List.foldl_cons]
      refine ih ?_ _ _ ha hp.2
      exact TRel.put (a := { tmps, defers := [] }) ht (d := some p) hp.1 (.a hv)

/-- How a round leaves: the record is turned. -/
def roundQ (l : Nat) (t : T) (N : Nat) (ps : Array Tmp) (assign body : Code) (Q : Value → H → Prop) : Exit → T → H → Prop
  | .normal, _, h => h l = some (.loop .busy none t N ps assign body) ∧ Q (.bool true) (upd h l (.loop .ready none t N ps assign body))
  | .ret, _, h => h l = some (.loop .busy none t N ps assign body) ∧ Q (.bool false) (upd h l (.loop .done (some .ret) t N ps assign body))
  | .exit id, _, h => h l = some (.loop .busy none t N ps assign body) ∧ Q (.bool false) (upd h l (.loop .done (some (.exit id)) t N ps assign body))
  | _, _, _ => False

theorem yspec_of (hm : P.follows .mixedOrders = true) {r : Nat} {t : T} {N : Nat} {ps : Array Tmp} {assign body : Code} {args : List Value} {h : H} {Q : Value → H → Prop} (hl : h r = some (.loop .ready none t N ps assign body))
    (hps : ps.toList.all (fun p => Nat.blt p N) = true) (hlen : ps.size = args.length) (hoka : okCode N true assign = true) (hokb : okCode N true body = true)
    (hk : awp P N assign (athen (fun t1 h1 => h1 r = some (.loop .ready none t N ps assign body) ∧
      awp P N body (roundQ r t N ps assign body Q) t1 (upd h1 r (.loop .busy none t N ps assign body))) fun _ _ _ => False) (tround N t ps args) h) : YSpec P r args h Q := by
  intro W ι w cargs l hr hlι ha
  obtain ⟨hB, _, L, g1, g2, g3, g4, rfl, rfl, rfl⟩ := hr.obj' hl hlι
  have hcl : cargs.size = args.length := by simpa using ha.length.symm
  refine ⟨L, g1, by omega, ?_⟩
  have hF : Wide (Fence.wide.inRound l.b) := .inr ⟨_, rfl⟩
  refine roundIn_of_wpIn trivial ?_
  have ht0 : TRel ι N (tround N t L.params args) ((L.params.zip cargs).foldl (fun tmps (t, a) => tmps.setIfInBounds t a) L.tmps) := by
    have h1 := tround_rel g4 L.params.toList args cargs.toList ha hps
    have e : (L.params.zip cargs).foldl (fun tmps (t, a) => tmps.setIfInBounds t a) L.tmps = (L.params.toList.zip cargs.toList).foldl (fun tmps p => tmps.setIfInBounds p.1 p.2) L.tmps := by
      rw [← Array.foldl_toList, Array.toList_zip]
    rw [e]
    refine ⟨h1.1, fun i hi => ?_⟩
    have : Nat.beq i N = false := Bool.eq_false_iff.2 fun hq => by have := Nat.eq_of_beq_eq_true hq; omega
    unfold tround
    simp only [tset, this, cond_false]
    exact h1.2 i hi
  have hd0 : DRel ι (tround N t L.params args N) [] := by
    have : tround N t L.params args N = undef := by simp [tround, tset, Nat.beq_refl]
    rw [this]; exact .nil
  have turn : ∀ {ι1 : Env} {h1 : H} {w1 : World} {st st' : LoopState} {pd pd' : Option Code}, Env.le ι ι1 → HRel P W ι1 h1 w1 → h1 r = some (.loop st pd t N L.params L.assign L.body) →
      ∃ L1, w1.heap[l.b]? = some (.loop L1) ∧ L1.state = st ∧ HRel P W ι1 (upd h1 r (.loop st' pd' t N L.params L.assign L.body)) (w1.putObj l.b (.loop { L1 with state := st', pending := pd' })) ∧ L1.pending = pd := by
    intro ι1 h1 w1 st st' pd pd' hle hr1 hl1
    obtain ⟨hB1, ho1, L1, q1, q2, q3, q4, q5, q6, q7⟩ := hr1.obj' hl1 (hle _ _ hlι)
    have hlt := hr1.inb r l (hle _ _ hlι)
    refine ⟨L1, q1, q2, ?_, q3⟩
    refine hr1.set hl1 (hle _ _ hlι) rfl (setBlk_size _ _ _) (fun c hc => setBlk_ne _ _ hc) rfl rfl rfl hB ?_ ?_
    · intro ces clock he
      have : (w1.putObj l.b (.loop { L1 with state := st', pending := pd' })).heap[l.b]? = some (.loop { L1 with state := st', pending := pd' }) := setBlk_same _ _ hlt
      rw [this] at he; cases he
    · exact ⟨hB1, ho1, _, setBlk_same _ _ hlt, rfl, rfl, q4, q5, q6, q7⟩
  refine wpIn_mono (awp_sound (D := none) hm hF true (fun h => by cases h) L.assign hoka hr ht0 hd0 hk) ?_
  intro e a1 w1 hc
  cases e with
  | normal =>
    obtain ⟨ι1, t1, h1, k1, k2, k3, k4, k5, k6⟩ := hc
    obtain ⟨L1, q1, q2, q3, q4⟩ := turn (st' := .busy) (pd' := none) k1 k2 k5
    have hL1 : ({ L1 with state := .busy, pending := none } : Loop) = { L1 with state := .busy } := by cases L1; simp only at q4; subst q4; rfl
    rw [hL1] at q3
    refine ⟨_, run_beginRound q1 q2, ?_⟩
    refine wpIn_mono (awp_sound (D := none) hm hF true (fun h => by cases h) L.body hokb q3 k3 k4 k6) ?_
    intro e a2 w2 hc
    cases e with
    | normal =>
      obtain ⟨ι2, t2, h2, m1, m2, m3, m4, m5, m6⟩ := hc
      obtain ⟨L2, p1, p2, p3, p4⟩ := turn (st' := .ready) (pd' := none) (Env.le_trans k1 m1) m2 m5
      exact ⟨_, _, run_endRound none p1, .bool true, .bool true, ι2, _, rfl, Env.le_trans k1 m1, p3, vrel_self rfl, m6⟩
    | ret =>
      obtain ⟨ι2, t2, h2, m1, m2, m3, m4, m5, m6⟩ := hc
      obtain ⟨L2, p1, p2, p3, p4⟩ := turn (st' := .done) (pd' := some .ret) (Env.le_trans k1 m1) m2 m5
      exact ⟨_, _, run_endRound (some .ret) p1, .bool false, .bool false, ι2, _, rfl, Env.le_trans k1 m1, p3, vrel_self rfl, m6⟩
    | exit id =>
      obtain ⟨ι2, t2, h2, m1, m2, m3, m4, m5, m6⟩ := hc
      obtain ⟨L2, p1, p2, p3, p4⟩ := turn (st' := .done) (pd' := some (.exit id)) (Env.le_trans k1 m1) m2 m5
      exact ⟨_, _, run_endRound (some (.exit id)) p1, .bool false, .bool false, ι2, _, rfl, Env.le_trans k1 m1, p3, vrel_self rfl, m6⟩
    | goto l => obtain ⟨_, _, _, _, _, _, _, k5⟩ := hc; exact k5.elim
    | panic ch => obtain ⟨_, _, _, _, _, _, _, k5⟩ := hc; exact k5.elim
    | outgrown => obtain ⟨_, _, _, _, _, _, _, k5⟩ := hc; exact k5.elim
  | exit id => obtain ⟨_, _, _, _, _, _, _, k5⟩ := hc; exact k5.elim
  | ret => obtain ⟨_, _, _, _, _, _, _, k5⟩ := hc; exact k5.elim
  | goto l => obtain ⟨_, _, _, _, _, _, _, k5⟩ := hc; exact k5.elim
  | panic ch => obtain ⟨_, _, _, _, _, _, _, k5⟩ := hc; exact k5.elim
  | outgrown => obtain ⟨_, _, _, _, _, _, _, k5⟩ := hc; exact k5.elim

/-! ### What contracts allow -/
theorem Spec.mono {f : FuncId} {args : List Value} {h : H} {Q Q' : Value → H → Prop} (hs : Spec P f args h Q) (hq : ∀ v h, Q v h → Q' v h) : Spec P f args h Q' :=
  fun W ι w cargs hr ha => (hs W ι w cargs hr ha).mono fun _ _ ⟨v, cv, ι', h', h1, h2, h3, h4, h5⟩ => ⟨v, cv, ι', h', h1, h2, h3, h4, hq _ _ h5⟩
/-- Blocks that nobody will ask for may be let go. -/
theorem Spec.drop {f : FuncId} {args : List Value} {h : H} {Q : Value → H → Prop} (hs : Spec P f args h fun v h' => ∃ h'', (∀ b o, h'' b = some o → h' b = some o) ∧ Q v h'') : Spec P f args h Q :=
  fun W ι w cargs hr ha => (hs W ι w cargs hr ha).mono fun _ _ ⟨v, cv, ι', _, h1, h2, h3, h4, h'', h5, h6⟩ => ⟨v, cv, ι', h'', h1, h2, h3.drop h5, h4, h6⟩
end
end Go.Proofs.YtjdhldfeflmneaaGreat.AM
