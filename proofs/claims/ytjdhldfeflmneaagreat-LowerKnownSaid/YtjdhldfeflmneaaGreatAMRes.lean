/-
  Functions whose results lie in memory (named results whose address is taken).
-/
import Derived.Test.YtjdhldfeflmneaaGreatAMSpec
set_option linter.unusedSimpArgs false
set_option linter.unusedVariables false
namespace Go.Proofs.YtjdhldfeflmneaaGreat.AM
open Go.RowKit

def resOf (P : Program) (t : T) (h : H) : ResultVar → Option Value
  | .tmp r => some (t r)
  | .cell a ty => match tySize P ty, t a with
    | some (ag, n), .pointer (some ⟨b, o, none⟩) => bif ag then (match cellsAt h b o n with | some l => some (.agg l.toArray) | none => none) else cellAt h b o
    | _, _ => none
def resAll (P : Program) (t : T) (h : H) : List ResultVar → Option (List Value)
  | [] => some []
  | r :: rs => match resOf P t h r with
    | some v => (match resAll P t h rs with | some l => some (v :: l) | none => none)
    | none => none
def retC (P : Program) (rs : List ResultVar) (Q : Value → H → Prop) (t : T) (h : H) : Prop :=
  match resAll P t h rs with
  | some [v] => Q v h
  | some vs => vs.all boxV = true ∧ Q (.tuple vs.toArray) h
  | none => False
def okRes (N : Nat) : ResultVar → Bool
  | .tmp r => Nat.blt r N
  | .cell a _ => Nat.blt a N
def retCQ (P : Program) (N : Nat) (rs : List ResultVar) (Q : Value → H → Prop) (t : T) (h : H) : Prop :=
  match marks (t N) with
  | [] => retC P rs Q t h
  | ds => ds.Nodup ∧ (∀ d ∈ ds, h d = some .defer) ∧ retC P rs Q t (fun b => if b ∈ ds then none else h b)
def bodyCQ (P : Program) (N : Nat) (rs : List ResultVar) (Q : Value → H → Prop) : Exit → T → H → Prop
  | .normal, t, h | .ret, t, h => retCQ P N rs Q t h
  | _, _, _ => False

section
variable {P : Program} {W : World}
abbrev resRun (tmps : Array Value) : ResultVar → Sem Value := fun
  | .tmp t => pure (tmps.getD t undef)
  | .cell a t => do loadVar t (← asAddr (tmps.getD a undef))
theorem run_resOf {ι : Env} {N : Nat} {t : T} {h : H} {tmps : Array Value} {w : World} (hr : HRel P W ι h w) (ht : TRel ι N t tmps) {r : ResultVar} {v : Value} (hok : okRes N r = true) (he : resOf P t h r = some v) :
    ∃ cv, (resRun tmps r).run P w = .ok cv w ∧ VRel ι v cv := by
  cases r with
  | tmp r => cases he; exact ⟨_, rfl, ht.2 r (blt_lt hok)⟩
  | cell a ty =>
    simp only [resOf] at he
    split at he
    · rename_i ag n b o hty hta
      have ha := ht.2 a (blt_lt hok)
      rw [hta] at ha
      obtain ⟨l, hl, hca⟩ := ha.ptr
      obtain ⟨i, hi, hn, hag⟩ := tySize_spec hty
      cases ag with
      | true =>
        simp only [cond_true] at he
        split at he
        · rename_i vs hvs
          cases he
          obtain ⟨vs', h1, h2, h3⟩ := read_cells hr hvs hl
          refine ⟨.agg vs'.toArray, ?_, .a (.agg h1)⟩
          have := run_loadCells_list (P := P) w ⟨l.b, l.o + o, none⟩ vs' h3
          rw [← h1.length, h2] at this
          simp [resRun, asAddr, hca, loadVar, hag, run_size hi, hn, this]
        · cases he
      | false =>
        simp only [cond_false] at he
        obtain ⟨v', h1, h2⟩ := read_cell hr he hl
        refine ⟨v', ?_, .a (.c h2)⟩
        simp [resRun, asAddr, hca, loadVar, hag, h1]
    · cases he
theorem run_resAll {ι : Env} {N : Nat} {t : T} {h : H} {tmps : Array Value} {w : World} (hr : HRel P W ι h w) (ht : TRel ι N t tmps) : ∀ {rs : List ResultVar} {vs : List Value}, rs.all (okRes N) = true → resAll P t h rs = some vs →
    ∃ cvs, (rs.mapM (resRun tmps)).run P w = .ok cvs w ∧ All2 (VRel ι) vs cvs
  | [], vs, _, he => by cases he; exact ⟨[], rfl, .nil⟩
  | r :: rs, vs, hok, he => by
    simp only [List.all_cons, Bool.and_eq_true] at hok
    simp only [resAll] at he
    split at he
    · rename_i v hv
      split at he
      · rename_i l hl
        cases he
        obtain ⟨cv, h1, h2⟩ := run_resOf hr ht hok.1 hv
        obtain ⟨cvs, h3, h4⟩ := run_resAll hr ht hok.2 hl
        refine ⟨cv :: cvs, ?_, .cons h2 h4⟩
        rw [List.mapM_cons, Sem.run_bind]
        refine (congrArg (fun q => Result.andThen q _) h1).trans ?_
        simp only [Result.andThen_ok, Sem.run_bind]
        refine (congrArg (fun q => Result.andThen q _) h3).trans ?_
        simp only [Result.andThen_ok, Sem.run_pure]
      · cases he
    · cases he
theorem all2_toA {ι : Env} : ∀ {vs cvs : List Value}, All2 (VRel ι) vs cvs → vs.all boxV = true → All2 (ARel ι) vs cvs
  | _, _, .nil, _ => .nil
  | _, _, .cons h t, hb => by
    simp only [List.all_cons, Bool.and_eq_true] at hb
    exact .cons (h.toA hb.1) (all2_toA t hb.2)
theorem retC_run {fn : Func} {ι ι' : Env} {N : Nat} {Q : Value → H → Prop} {t : T} {h : H} {tmps : Array Value} {w : World} (hle : Env.le ι ι') (hr : HRel P W ι' h w) (ht : TRel ι' N t tmps) (hN : fn.results.toList.all (okRes N) = true) (hk : retC P fn.results.toList Q t h) :
    ∃ cv, (results fn tmps).run P w = .ok cv w ∧ Post P W ι Q (.returned cv) w := by
  unfold retC at hk
  cases hv : resAll P t h fn.results.toList with
  | none => rw [hv] at hk; exact hk.elim
  | some vs =>
    rw [hv] at hk
    obtain ⟨cvs, h1, h2⟩ := run_resAll hr ht hN hv
    have hrun : (results fn tmps).run P w = .ok (if hh : cvs.toArray.size = 1 then cvs.toArray[0] else .tuple cvs.toArray) w := by
      unfold results
      rw [Sem.run_bind]
      have h3 : (Array.mapM (resRun tmps) fn.results).run P w = Result.ok cvs.toArray w := by
        rw [Array.mapM_eq_mapM_toList]
        simp [h1]
      refine (congrArg (fun q => Result.andThen q _) h3).trans ?_
      simp only [Result.andThen_ok, Sem.run_pure]
    refine ⟨_, hrun, ?_⟩
    cases h2 with
    | nil => exact ⟨.tuple #[], _, ι', h, rfl, hle, hr, .tuple .nil, hk.2⟩
    | cons h2 h2s => cases h2s with
      | nil => exact ⟨_, _, ι', h, rfl, hle, hr, by simpa using h2, hk⟩
      | cons h3 h3s =>
        refine ⟨_, _, ι', h, rfl, hle, hr, ?_, hk.2⟩
        exact .tuple (by simpa using all2_toA (.cons h2 (.cons h3 h3s)) hk.1)
theorem spec_of_bodyC (hm : P.follows .mixedOrders = true) {f : FuncId} {fn : Func} {c : Code} {N : Nat} {args : List Value} {h : H} {Q : Value → H → Prop} (hf : P.funcs[f]? = some fn) (hb : fn.body = some c)
    (hn : fn.ntmps = N) (hok : okCode N false c = true) (hrN : fn.results.toList.all (okRes N) = true) (hlen : args.length ≤ N) (hk : awp P N c (bodyCQ P N fn.results.toList Q) (tinit args) h) : Spec P f args h Q := by
  intro W ι w cargs hr ha
  subst hn
  refine (callsIn_wide (n := 0)).1 (callsIn_of_wp_marks hf hb trivial ?_)
  have h0 : tinit args fn.ntmps = undef := by simp [tinit, hlen]
  have hmk : marks undef = [] := rfl
  refine wpIn_mono (awp_sound (D := none) hm (.inl rfl) false (fun _ => ⟨rfl, rfl⟩) c hok hr (tinit_rel ha hlen) (by rw [h0]; exact .nil) hk) ?_
  intro e a' w' hc
  have fin : ∀ t' h' ι', Env.le ι ι' → HRel P W ι' h' w' → TRel ι' fn.ntmps t' a'.tmps → DRel ι' (t' fn.ntmps) a'.defers → retCQ P fn.ntmps fn.results.toList Q t' h' → LeavesInM Fence.wide 0 P fn a'.tmps (Post P W ι Q) a'.defers .returning w' := by
    intro t' h' ι' k1 k2 k3 k4 k5
    unfold retCQ at k5
    split at k5
    · rename_i hmk'
      unfold DRel at k4
      rw [hmk'] at k4
      generalize a'.defers = dfs at *
      cases k4
      exact retC_run k1 k2 k3 hrN k5
    · obtain ⟨k6, k7, k8⟩ := k5
      exact leaves_marks _ _ k4 k2 k7 k6 fun w'' hw'' => retC_run k1 hw'' k3 hrN k8
  cases e with
  | normal => obtain ⟨ι', t', h', k1, k2, k3, k4, k5⟩ := hc; exact fin t' h' ι' k1 k2 k3 k4 k5
  | ret => obtain ⟨ι', t', h', k1, k2, k3, k4, k5⟩ := hc; exact fin t' h' ι' k1 k2 k3 k4 k5
  | exit id => obtain ⟨_, _, _, _, _, _, _, k5⟩ := hc; exact k5.elim
  | goto l => obtain ⟨_, _, _, _, _, _, _, k5⟩ := hc; exact k5.elim
  | panic ch => obtain ⟨_, _, _, _, _, _, _, k5⟩ := hc; exact k5.elim
  | outgrown => obtain ⟨_, _, _, _, _, _, _, k5⟩ := hc; exact k5.elim
end
end Go.Proofs.YtjdhldfeflmneaaGreat.AM
