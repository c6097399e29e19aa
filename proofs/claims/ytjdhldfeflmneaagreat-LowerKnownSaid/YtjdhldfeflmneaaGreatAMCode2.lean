/-
  The predicate transformer over the abstract memory tells what the model's machine does: regions, code, functions.
-/
import Derived.Test.YtjdhldfeflmneaaGreatAMCode
set_option linter.unusedSimpArgs false
set_option linter.unusedVariables false
namespace Go.Proofs.YtjdhldfeflmneaaGreat.AM
open Go.RowKit

section
variable {P : Program} {W : World} {N : Nat} {F : Fence}

def MarkIs (ι : Env) (d : Nat) (df : Deferred) : Prop := ∃ l, ι d = some l ∧ df = { target := .collected l.b, args := #[] }
def DRel (ι : Env) (v : Value) (ds : List Deferred) : Prop := All2 (MarkIs ι) (marks v) ds
theorem DRel.mono {ι ι' : Env} {v : Value} {ds : List Deferred} (h : DRel ι v ds) (hle : Env.le ι ι') : DRel ι' v ds :=
  All2.mono h fun _ _ ⟨l, hl, he⟩ => ⟨l, hle _ _ hl, he⟩

/-- The deferred calls: either just those (no range over a function), or the marks that are noted. -/
def DR (D : Option (List Deferred)) (ι : Env) (v : Value) (ds : List Deferred) : Prop :=
  match D with
  | some d => ds = d
  | none => DRel ι v ds
theorem DR.mono {D : Option (List Deferred)} {ι ι' : Env} {v : Value} {ds : List Deferred} (h : DR D ι v ds) (hle : Env.le ι ι') : DR D ι' v ds := by
  cases D with
  | some d => exact h
  | none => exact DRel.mono h hle

/-- What the abstract side says, in the model's world. -/
def Con (D : Option (List Deferred)) (P : Program) (W : World) (N : Nat) (ι : Env) (Q : T → H → Prop) (a : Act) (w : World) : Prop :=
  ∃ ι' t h, Env.le ι ι' ∧ HRel P W ι' h w ∧ TRel ι' N t a.tmps ∧ DR D ι' (t N) a.defers ∧ Q t h
def ConE (D : Option (List Deferred)) (P : Program) (W : World) (N : Nat) (ι : Env) (Q : Exit → T → H → Prop) (e : Exit) (a : Act) (w : World) : Prop := Con D P W N ι (Q e) a w
theorem Con.mono {D : Option (List Deferred)} {ι ι' : Env} {Q : T → H → Prop} {a : Act} {w : World} (hle : Env.le ι ι') (h : Con D P W N ι' Q a w) : Con D P W N ι Q a w := by
  obtain ⟨ι2, t, hh, h1, h2⟩ := h
  exact ⟨ι2, t, hh, Env.le_trans hle h1, h2⟩
theorem Con.imp {D : Option (List Deferred)} {ι : Env} {Q Q' : T → H → Prop} {a : Act} {w : World} (hq : ∀ t h, Q t h → Q' t h) (h : Con D P W N ι Q a w) : Con D P W N ι Q' a w := by
  obtain ⟨ι2, t, hh, h1, h2, h3, h4, h5⟩ := h
  exact ⟨ι2, t, hh, h1, h2, h3, h4, hq _ _ h5⟩

theorem getD_some {tmps : Array Value} {d : Nat} (h : d < tmps.size) : tmps[d]? = some (tmps.getD d undef) := by
  simp [Array.getD, h]

theorem guard_spec {ops : Array Oper} {t : T} {ι : Env} {a : Act} {o : Oper} {j : Nat} {want : Bool} (hall : ops.toList.all (okOper N) = true) (ht : TRel ι N t a.tmps) (hg : o.guard = some (j, want)) :
    (∃ b, guardVal ops j t = .bool b ∧ Region.wanted o (yielded ops a.tmps) = (b == want)) ∨
    ((∀ b, guardVal ops j t ≠ .bool b) ∧ Region.wanted o (yielded ops a.tmps) = false) := by
  have hw : Region.wanted o (yielded ops a.tmps) = (yielded ops a.tmps j == some want) := by simp [Region.wanted, hg]
  rw [hw]
  have hy : yielded ops a.tmps j = match ((ops[j]?).bind (·.dst)).bind (a.tmps[·]?) with | some (.bool b) => some b | _ => none := rfl
  rw [hy]
  unfold guardVal
  cases hj : (ops[j]?).bind (·.dst) with
  | none => exact .inr ⟨fun b h => by simp [undef] at h, rfl⟩
  | some d =>
    have hdN : d < N := by
      cases hoj : ops[j]? with
      | none => rw [hoj] at hj; cases hj
      | some oj =>
        rw [hoj] at hj
        have hokj : okOper N oj = true := List.all_eq_true.1 hall oj (by simpa using Array.mem_of_getElem? hoj)
        unfold okOper at hokj
        simp only [Bool.and_eq_true] at hokj
        simp only [Option.bind_some] at hj
        rw [hj] at hokj
        exact blt_lt hokj.1.1
    have hv := ht.2 d hdN
    have hget := getD_some (tmps := a.tmps) (d := d) (by rw [ht.1]; exact hdN)
    simp only [Option.bind_some, hget]
    generalize a.tmps.getD d undef = cv at *
    cases htd : t d with
    | bool b => rw [htd] at hv; obtain rfl := hv.bool; exact .inl ⟨b, rfl, by simp⟩
    | _ =>
      refine .inr ⟨fun b h => by simp at h, ?_⟩
      have hcv : ∀ b, cv ≠ .bool b := fun b he => by have := hv.notBool b he; rw [htd] at this; cases this
      cases cv <;> first | rfl | exact absurd rfl (hcv _)

theorem aStep_sound {D : Option (List Deferred)} {ops : Array Oper} {i : Nat} {K : T → H → Prop} {t : T} {h : H} {ι : Env} {a : Act} {w : World} {Q : Exit → Act → World → Prop} (hF : Wide F) (hall : ops.toList.all (okOper N) = true)
    (hr : HRel P W ι h w) (ht : TRel ι N t a.tmps) (hd : DR D ι (t N) a.defers) (hk : aStep P ops i K t h) : wpOpIn F 0 P ops Q i (Con D P W N ι K) a w := by
  unfold aStep at hk
  unfold wpOpIn
  cases ho : ops[i]? with
  | none => rw [ho] at hk; exact ⟨ι, t, h, Env.le_refl _, hr, ht, hd, hk⟩
  | some o =>
    rw [ho] at hk
    simp only at hk ⊢
    have hok : okOper N o = true := List.all_eq_true.1 hall o (by simpa using Array.mem_of_getElem? ho)
    have hdst : (match o.dst with | some d => Nat.blt d N | none => true) = true := by
      unfold okOper at hok; simp only [Bool.and_eq_true] at hok; exact hok.1.1
    have hne : Next' P W ι (fun v h => K (tput t o.dst v) h) fun cv w' => Con D P W N ι K (a.put o.dst cv) w' := by
      intro v cv ι' h' w' h1 h2 h3 h4
      exact ⟨ι', _, h', h1, h2, (ht.mono h1).put hdst h3, by rw [tput_top t v hdst, put_defers]; exact hd.mono h1, h4⟩
    have hrun : aop P o.op (aev t) h (fun v h => K (tput t o.dst v) h) → o.wpIn F 0 P a w (Con D P W N ι K) Q := fun hk => aop_sound hF hok hr ht hk hne
    have hskip : K (tput t o.dst undef) h → (∀ f, o.about P w a.eval = some f → F.fn f) ∧ Con D P W N ι K (a.put o.dst undef) w := fun hk => ⟨fun f _ => hF.fn f, hne undef undef ι h w (Env.le_refl _) hr VRel.undef hk⟩
    cases hg : o.guard with
    | none =>
      rw [hg] at hk
      have hw : Region.wanted o (yielded ops a.tmps) = true := by simp [Region.wanted, hg]
      rw [if_pos hw]; exact hrun hk
    | some jw =>
      obtain ⟨j, want⟩ := jw
      rw [hg] at hk
      simp only at hk
      rcases guard_spec hall ht hg with ⟨b, hv, hw⟩ | ⟨hv, hw⟩
      · rw [hv] at hk
        simp only [o_guard] at hk
        cases hbw : (b == want) with
        | true => rw [hbw, cond_true] at hk; rw [if_pos (by rw [hw, hbw])]; exact hrun hk
        | false => rw [hbw, cond_false] at hk; rw [if_neg (by rw [hw, hbw]; simp)]; exact hskip hk
      · rw [if_neg (by rw [hw]; simp)]
        refine hskip ?_
        unfold o_guard at hk
        split at hk
        · rename_i b hb; exact absurd hb (hv b)
        · exact hk

theorem aOps_sound {D : Option (List Deferred)} {ops : Array Oper} {K : T → H → Prop} {Q : Exit → Act → World → Prop} (hF : Wide F) (hall : ops.toList.all (okOper N) = true) : ∀ (is : List Nat) {t : T} {h : H} {ι : Env} {a : Act} {w : World},
    HRel P W ι h w → TRel ι N t a.tmps → DR D ι (t N) a.defers → aOps P ops is K t h → (∀ a w, Con D P W N ι K a w → Q .normal a w) → wpOpsIn F 0 P ops Q is a w
  | [], t, h, ι, a, w, hr, ht, hd, hk, hq => hq a w ⟨ι, t, h, Env.le_refl _, hr, ht, hd, hk⟩
  | i :: is, t, h, ι, a, w, hr, ht, hd, hk, hq => by
    rw [wpOpsIn_cons]
    refine wpOpIn_mono ?_ (aStep_sound hF hall hr ht hd (show aStep P ops i (aOps P ops is K) t h from hk))
    rintro a' w' ⟨ι', t', h', h1, h2, h3, h4, h5⟩
    exact aOps_sound hF hall is h2 h3 h4 h5 fun a w hc => hq a w (hc.mono h1)

theorem aAny_sound {D : Option (List Deferred)} {ops : Array Oper} {K : T → H → Prop} {Q : Exit → Act → World → Prop} (hF : Wide F) (hall : ops.toList.all (okOper N) = true) : ∀ (fuel : Nat) (listed : Array Bool) {t : T} {h : H} {ι : Env} {a : Act} {w : World},
    HRel P W ι h w → TRel ι N t a.tmps → DR D ι (t N) a.defers → aAny P ops K fuel listed t h → (∀ a w, Con D P W N ι K a w → Q .normal a w) → wpAnyIn F 0 P .any ops Q fuel listed a w
  | 0, listed, t, h, ι, a, w, hr, ht, hd, hk, hq => ⟨hk.1, hq a w ⟨ι, t, h, Env.le_refl _, hr, ht, hd, hk.2⟩⟩
  | fuel + 1, listed, t, h, ι, a, w, hr, ht, hd, hk, hq => by
    refine ⟨fun he => hq a w ⟨ι, t, h, Env.le_refl _, hr, ht, hd, hk.1 he⟩, fun i hi => ?_⟩
    refine wpOpIn_mono ?_ (aStep_sound hF hall hr ht hd (hk.2 i hi))
    rintro a' w' ⟨ι', t', h', h1, h2, h3, h4, h5⟩
    exact aAny_sound hF hall fuel _ h2 h3 h4 h5 fun a w hc => hq a w (hc.mono h1)

theorem least {p : Nat → Prop} (h : ∃ n, p n) : ∃ n, p n ∧ ∀ m, p m → n ≤ m := by
  obtain ⟨n, hn⟩ := h
  induction n using Nat.strongRecOn with
  | _ n ih =>
    by_cases hex : ∃ m, m < n ∧ p m
    · obtain ⟨m, hm, hp⟩ := hex; exact ih m hm hp
    · exact ⟨n, hn, fun m hm => Nat.le_of_not_lt fun hlt => hex ⟨m, hlt, hm⟩⟩

/-- A block that no abstract one stands for is turned. -/
theorem HRel.away {ι : Env} {h : H} {w w' : World} (hr : HRel P W ι h w) {lb : Nat} (hB : W.heap.size ≤ lb) (hsz : w'.heap.size = w.heap.size) (hkeep : ∀ c, c ≠ lb → w'.heap[c]? = w.heap[c]?)
    (hos : w'.os = w.os) (htape : w'.tape = w.tape) (hout : w'.output = w.output) (hno : ∀ c oc lc, h c = some oc → ι c = some lc → oc.ro = false → lc.b ≠ lb) (hnm : ∀ ces clock, w'.heap[lb]? ≠ some (.map ces clock)) : HRel P W ι h w' := by
  refine ⟨hr.nxt, hr.z0, hr.z1, ⟨hos.trans hr.below.os, htape.trans hr.below.tape, hout.trans hr.below.output, by rw [hsz]; exact hr.below.size, fun k hk => by rw [hkeep k (by omega)]; exact hr.below.block k hk⟩,
    fun b l hb => by rw [hsz]; exact hr.inb b l hb, fun b o hb => ?_, hr.sep⟩
  obtain ⟨l, hl, ho⟩ := hr.obj b o hb
  refine ⟨l, hl, ho.keep (Env.le_refl _) ?_ fun m lm hm => ?_⟩
  · refine hkeep _ fun he => ?_
    by_cases hx : o.ro = false
    · exact hno b o l hb hl hx he
    · cases o with
      | cells cs E m => cases m with
        | ro =>
          obtain ⟨_, _, _, _, _, _, h3, _⟩ := ho
          have := h3 rfl; omega
        | _ => simp [AObj.ro] at hx
      | _ => simp [AObj.ro] at hx
  · by_cases he : lm.b = lb
    · exact .inr fun ces' clock' hc => absurd (he ▸ hc) (hnm _ _)
    · exact .inl (hkeep _ he)

theorem marks_list (l : List Nat) : (l.map fun n : Nat => Value.int .u64 (n : Int)).filterMap (fun | .int _ n => some n.toNat | _ => none) = l := by
  induction l with
  | nil => rfl
  | cons n l ih => simp only [List.map_cons, List.filterMap_cons, ih]; rfl
theorem marks_add (v : Value) (d : Nat) : marks (addMark v d) = d :: marks v := marks_list (d :: marks v)

theorem loop_sound {D : Option (List Deferred)} {c : Code} {t : T} {h : H} {ι : Env} {a : Act} {w : World} {Q : Exit → T → H → Prop}
    (ih : ∀ {Q : Exit → T → H → Prop} {t : T} {h : H} {ι : Env} {a : Act} {w : World}, HRel P W ι h w → TRel ι N t a.tmps → DR D ι (t N) a.defers → awp P N c Q t h → c.wpIn F 0 P (ConE D P W N ι Q) a w)
    (hr : HRel P W ι h w) (ht : TRel ι N t a.tmps) (hd : DR D ι (t N) a.defers) (hk : sloop (fun t h K => awp P N c (athen K Q) t h) t h) : (Code.loop c).wpIn F 0 P (ConE D P W N ι Q) a w := by
  obtain ⟨I, ⟨n, hI⟩, hround⟩ := hk
  let p : Act → World → Nat → Prop := fun a w n => ∃ ι' t h, Env.le ι ι' ∧ HRel P W ι' h w ∧ TRel ι' N t a.tmps ∧ DR D ι' (t N) a.defers ∧ I n t h
  have hcl : ∀ a w, ∃ m, (∃ n, p a w n) → p a w m ∧ ∀ k, p a w k → m ≤ k := fun a w => by
    by_cases hx : ∃ n, p a w n
    · obtain ⟨m, hm⟩ := least hx; exact ⟨m, fun _ => hm⟩
    · exact ⟨0, fun h => absurd h hx⟩
  let μ : Act → World → Nat := fun a w => (hcl a w).choose
  have hμ : ∀ a w, (∃ n, p a w n) → p a w (μ a w) ∧ ∀ k, p a w k → μ a w ≤ k := fun a w => (hcl a w).choose_spec
  refine wpIn_loop (fun a w => ∃ n, p a w n) μ ⟨n, ι, t, h, Env.le_refl _, hr, ht, hd, hI⟩ ?_
  intro a1 w1 hp
  obtain ⟨⟨ι1, t1, h1, g1, g2, g3, g4, g5⟩, _⟩ := hμ a1 w1 hp
  refine wpIn_mono (ih g2 g3 g4 (hround _ _ _ g5)) ?_
  intro e a2 w2 hc
  cases e with
  | normal =>
    obtain ⟨ι2, t2, h2, k1, k2, k3, k4, m, hm, hI2⟩ := hc
    have hp2 : p a2 w2 m := ⟨ι2, t2, h2, Env.le_trans g1 k1, k2, k3, k4, hI2⟩
    exact ⟨⟨m, hp2⟩, Nat.lt_of_le_of_lt ((hμ a2 w2 ⟨m, hp2⟩).2 m hp2) hm⟩
  | exit id => exact Con.mono g1 hc
  | goto l => exact Con.mono g1 hc
  | ret => exact Con.mono g1 hc
  | panic ch => exact Con.mono g1 hc
  | outgrown => exact Con.mono g1 hc

theorem rangeFunc_sound {D : Option (List Deferred)} (hD : D = none) {g : Operand} {ps : Array Tmp} {assign body : Code} {t : T} {h : H} {ι : Env} {a : Act} {w : World} {Q : Exit → T → H → Prop} (hF : Wide F) (hro : F.round = none) (hg : okOperand N g = true)
    (hr : HRel P W ι h w) (ht : TRel ι N t a.tmps) (hd : DR D ι (t N) a.defers) (hk : awp P N (.rangeFunc g ps assign body) Q t h) : (Code.rangeFunc g ps assign body).wpIn F 0 P (ConE D P W N ι Q) a w := by
  subst hD
  simp only [awp] at hk
  obtain ⟨d, h2d, hd1, hhd⟩ := hr.fresh
  -- the block for deferred calls
  have hr1 : HRel P W (ι.set d ⟨w.heap.size, 0, 0⟩) (upd h d .defer) (w.alloc (.deferred (some []))) :=
    hr.new h2d hd1 ⟨hr.below.size, rfl, alloc_get_new w _⟩
  have hle1 := Env.le_set (ι := ι) ⟨w.heap.size, 0, 0⟩ hd1
  obtain ⟨l, h2l, hl1, hhl⟩ := hr1.fresh
  have hld : l ≠ d := by rintro rfl; rw [Env.set_same] at hl1; cases hl1
  have hhl' : h l = none := by rw [upd_ne _ _ hld] at hhl; exact hhl
  let w1 := w.alloc (.deferred (some []))
  let w2 : Nat → World := fun fn => w1.alloc (.loop { state := .ready, pending := none, fn, tmps := a.tmps, params := ps, assign, body, defers := w.heap.size })
  have hs1 : w1.heap.size = w.heap.size + 1 := by simp [w1]
  let ι2 := (ι.set d ⟨w.heap.size, 0, 0⟩).set l ⟨w1.heap.size, 0, 0⟩
  have hle2 : Env.le (ι.set d ⟨w.heap.size, 0, 0⟩) ι2 := Env.le_set _ hl1
  have hr2 : ∀ fn, HRel P W ι2 (upd (upd h d .defer) l (.loop .ready none t N ps assign body)) (w2 fn) := fun fn =>
    hr1.new h2l hl1 ⟨hr1.below.size, rfl, _, alloc_get_new w1 _, rfl, rfl, (ht.mono hle1).mono hle2, rfl, rfl, rfl⟩
  have hkk := hk l d h2l h2d hld hhl' hhd
  have hgv := operand_rel ht hg
  unfold o_rangeCall at hkk
  split at hkk
  · rename_i f first captured hv
    obtain ⟨hb, hspec⟩ := hkk
    rw [hv] at hgv
    have hc := hgv.cell rfl
    generalize hce : a.eval g = cg at hc
    cases hc with
    | s hc => cases hc
    | func f q1 q2 =>
      rename_i first' captured'
      refine wpIn_rangeFunc fun fn _ => ⟨w1.heap.size, [{ target := .collected w.heap.size, args := #[] }], w2 fn, { target := .fn (.func f) captured', args := first' ++ #[.func (.yield w1.heap.size) #[] #[]] }, w2 fn, f, first' ++ #[.func (.yield w1.heap.size) #[] #[]] ++ captured', w2 fn, ?_, ?_, ?_, ?_, hF.depth, ?_⟩
      · rw [hro, hs1]; exact run_enterLoop_outer fn a.tmps ps assign body
      · have hcst : ∀ v, a.eval (.const v) = v := fun _ => rfl
        simp [resolve, hce, Deferred.ofValue, hcst]
      · intro f' _; exact hF.fn f'
      · simp [invoke, hasBody_run hb]
      · have hargs : All2 (ARel ι2) (first.toList ++ [Value.func (.yield l) #[] #[]] ++ captured.toList) (first' ++ #[Value.func (.yield w1.heap.size) #[] #[]] ++ captured').toList := by
          have m1 : All2 (ARel ι2) first.toList first'.toList := q1.mono fun _ _ h => .c (.s ((h.mono hle1).mono hle2))
          have m2 : All2 (ARel ι2) captured.toList captured'.toList := q2.mono fun _ _ h => .c (.s ((h.mono hle1).mono hle2))
          have m3 : ARel ι2 (.func (.yield l) #[] #[]) (.func (.yield w1.heap.size) #[] #[]) := .c (.yield (Env.set_same _ _ _))
          simpa using (m1.append (.cons m3 .nil)).append m2
        refine hF.calls ((hspec W ι2 (w2 fn) _ (hr2 fn) hargs).mono ?_)
        rintro e w3 ⟨v, cv, ι3, h3, rfl, k1, k2, k3, k4⟩
        have hl3 : ι3 l = some ⟨w1.heap.size, 0, 0⟩ := k1 _ _ (Env.set_same _ _ _)
        have hd3 : ι3 d = some ⟨w.heap.size, 0, 0⟩ := k1 _ _ (hle2 _ _ (Env.set_same _ _ _))
        have hle3 : Env.le ι ι3 := Env.le_trans hle1 (Env.le_trans hle2 k1)
        have fin : ∀ st pend t' N' ps' as' bo', h3 l = some (.loop st pend t' N' ps' as' bo') → st ≠ .busy → ∃ w4, (Instr.endLoop w1.heap.size).run P w3 = .ok pend w4 ∧ HRel P W ι3 (del h3 l) w4 := by
          intro st pend t' N' ps' as' bo' hh hst
          obtain ⟨hB, _, L, g1, rfl, rfl, _⟩ := k2.obj' hh hl3
          have hlt := k2.inb l _ hl3
          refine ⟨_, run_endLoop g1 hst, (k2.drop (h' := del h3 l) fun c oc hc => by unfold del at hc; split at hc; · cases hc
                                                                                     · exact hc).away hB (by simp [World.putObj]) (fun c hc => by simp [World.putObj, Array.getElem?_setIfInBounds_ne (Ne.symm hc)]) rfl rfl rfl ?_ ?_⟩
          · intro c oc lc hc hlc hx he
            have hcl : c ≠ l := by rintro rfl; rw [del_same] at hc; cases hc
            rw [del_ne _ hcl] at hc
            exact k2.sep c l oc _ lc _ hcl hc hh hlc hl3 hx rfl he
          · intro ces clock he
            have : (w3.putObj w1.heap.size (.loop { L with state := .exhausted })).heap[w1.heap.size]? = some (.loop { L with state := .exhausted })   := setBlk_same _ _ hlt
            rw [this] at he; cases he
        have con : ∀ (e' : Exit) w4, HRel P W ι3 (del h3 l) w4 → Q e' (tset t N (addMark (t N) d)) (del h3 l) → ConE none P W N ι Q e' { a with defers := [{ target := .collected w.heap.size, args := #[] }] ++ a.defers } w4 := by
          intro e' w4 hr4 hq
          refine ⟨ι3, _, _, hle3, hr4, ?_, ?_, hq⟩
          · refine ⟨ht.1, fun i hi => ?_⟩
            have : Nat.beq i N = false := Bool.eq_false_iff.2 fun hq => by have := Nat.eq_of_beq_eq_true hq; omega
            simp only [tset, this, cond_false]
            exact (ht.2 i hi).mono hle3
          · have hb : Nat.beq N N = true := Nat.beq_refl N
            simp only [tset, hb, cond_true]
            show DRel ι3 (addMark (t N) d) _
            unfold DRel
            rw [marks_add]
            exact .cons ⟨_, hd3, rfl⟩ (DRel.mono hd hle3)
        split at k4
        · rename_i hh
          obtain ⟨w4, q3, q4⟩ := fin _ _ _ _ _ _ _ hh (by simp)
          exact ⟨none, w4, q3, con _ _ q4 k4⟩
        · rename_i hh
          obtain ⟨w4, q3, q4⟩ := fin _ _ _ _ _ _ _ hh (by simp)
          exact ⟨some .ret, w4, q3, wpIn_ret (con _ _ q4 k4)⟩
        · rename_i id _ _ _ _ _ hh
          obtain ⟨w4, q3, q4⟩ := fin _ _ _ _ _ _ _ hh (by simp)
          exact ⟨some (.exit id), w4, q3, wpIn_exit (con _ _ q4 k4)⟩
        · exact k4.elim
  · exact hkk.elim

theorem awp_sound {D : Option (List Deferred)} (hm : P.follows .mixedOrders = true) (hF : Wide F) (rd : Bool) (hrd : rd = false → F.round = none ∧ D = none) : ∀ (c : Code), okCode N rd c = true →
    ∀ {Q : Exit → T → H → Prop} {t : T} {h : H} {ι : Env} {a : Act} {w : World}, HRel P W ι h w → TRel ι N t a.tmps → DR D ι (t N) a.defers → awp P N c Q t h → c.wpIn F 0 P (ConE D P W N ι Q) a w := by
  intro c
  induction c with
  | skip => intro _ Q t h ι a w hr ht hd hk; exact wpIn_skip ⟨ι, t, h, Env.le_refl _, hr, ht, hd, hk⟩
  | label l => intro _ Q t h ι a w hr ht hd hk; exact wpIn_label ⟨ι, t, h, Env.le_refl _, hr, ht, hd, hk⟩
  | exit id => intro _ Q t h ι a w hr ht hd hk; exact wpIn_exit ⟨ι, t, h, Env.le_refl _, hr, ht, hd, hk⟩
  | ret => intro _ Q t h ι a w hr ht hd hk; exact wpIn_ret ⟨ι, t, h, Env.le_refl _, hr, ht, hd, hk⟩
  | goto l => intro hok; cases hok
  | refuse s => intro hok; cases hok
  | scope c ih => intro hok; cases hok
  | region id ops draw =>
    intro hok Q t h ι a w hr ht hd hk
    cases draw with
    | false => exact wpIn_region (aOps_sound hF hok _ hr ht hd hk fun a w hc => hc)
    | true => exact wpIn_region_any hm (aAny_sound hF hok _ _ (hr.drawn _) ht hd hk fun a w hc => hc)
  | seq x y ihx ihy =>
    intro hok Q t h ι a w hr ht hd hk
    simp only [okCode, Bool.and_eq_true] at hok
    refine wpIn_seq (wpIn_mono (ihx hok.1 hr ht hd hk) ?_)
    intro e a1 w1 hc
    cases e with
    | normal =>
      obtain ⟨ι1, t1, h1, k1, k2, k3, k4, k5⟩ := hc
      exact wpIn_mono (ihy hok.2 k2 k3 k4 k5) fun e a w hc => Con.mono k1 hc
    | _ => exact hc
  | cond c x y ihx ihy =>
    intro hok Q t h ι a w hr ht hd hk
    simp only [okCode, Bool.and_eq_true] at hok
    have hc := operand_rel ht hok.1.1
    have hk' : o_if (aev t c) (awp P N x Q t h) (awp P N y Q t h) := hk
    unfold o_if at hk'
    split at hk'
    · rename_i b hb
      rw [hb] at hc
      refine wpIn_cond hc.bool ?_
      cases b with
      | true => exact ihx hok.1.2 hr ht hd hk'
      | false => exact ihy hok.2 hr ht hd hk'
    · exact hk'.elim
  | block id c ih =>
    intro hok Q t h ι a w hr ht hd hk
    refine wpIn_block (wpIn_mono (ih hok hr ht hd hk) ?_)
    intro e a1 w1 hc
    cases e with
    | exit j =>
      simp only [ConE, ablock] at hc
      simp only [Exit.inBlock]
      by_cases hj : j = id
      · subst hj
        rw [if_pos rfl]
        rw [Nat.beq_refl, cond_true] at hc
        exact hc
      · rw [if_neg hj]
        have : Nat.beq j id = false := Bool.eq_false_iff.2 fun hq => hj (Nat.eq_of_beq_eq_true hq)
        rw [this, cond_false] at hc
        exact hc
    | _ => exact hc
  | loop c ih =>
    intro hok Q t h ι a w hr ht hd hk
    exact loop_sound (fun hr ht hd hk => ih hok hr ht hd hk) hr ht hd hk
  | rangeFunc g ps assign body =>
    intro hok Q t h ι a w hr ht hd hk
    simp only [okCode, Bool.and_eq_true, Bool.not_eq_true'] at hok
    exact rangeFunc_sound (hrd hok.1.1.1.1).2 hF (hrd hok.1.1.1.1).1 hok.1.1.1.2 hr ht hd hk

end
end Go.Proofs.YtjdhldfeflmneaaGreat.AM
