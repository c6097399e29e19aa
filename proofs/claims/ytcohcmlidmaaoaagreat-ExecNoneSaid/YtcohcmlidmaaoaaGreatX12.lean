/-
  A function's own code by the executor, but for one piece of it that is told ahead.
-/
import Derived.Test.YtcohcmlidmaaoaaGreatM9
set_option linter.unusedSimpArgs false
set_option linter.unusedVariables false
namespace Go.Proofs.YtcohcmlidmaaoaaGreat.AM
noncomputable section
inductive Stp where
  | L | R | B | P
def RunAt (P : Program) (run : XS → Option (XE × XS)) (N : Nat) (c : Code) : Prop := ∀ s e s', run s = some (e, s') → ∀ (F : H) (ρ : Ren) (h : H) (T : T) (Q : Exit → AM.T → H → Prop), SR F ρ N s T h →
  (∀ ρ' T' h', ρ.le ρ' → SR F ρ' N s' T' h' → Q e.ex T' h') → awp P N c Q T h
def iterX (body : XS → Option (XE × XS)) : Nat → XS → Option (XE × XS)
  | 0, _ => none
  | f + 1, s => match body s with
    | some (.normal, s) => iterX body f s
    | r => r
def runP (run : RunF) (fast : XS → Option (XE × XS)) (N fuel : Nat) : List Stp → Code → XS → Option (XE × XS)
  | [], c, s => (match fast s with
    | some r => some r
    | none => run N c s)
  | .L :: p, .seq a b, s => (match runP run fast N fuel p a s with
    | some (.normal, s) => run N b s
    | r => r)
  | .R :: p, .seq a b, s => (match run N a s with
    | some (.normal, s) => runP run fast N fuel p b s
    | r => r)
  | .B :: p, .block id c, s => (match runP run fast N fuel p c s with
    | some (.exit j, s) => bif Nat.beq j id then some (.normal, s) else some (.exit j, s)
    | r => r)
  | .P :: p, .loop c, s => iterX (runP run fast N fuel p c) fuel s
  | _, _, _ => none
def codeAt : List Stp → Code → Code
  | .L :: p, .seq a _ => codeAt p a
  | .R :: p, .seq _ b => codeAt p b
  | .B :: p, .block _ c => codeAt p c
  | .P :: p, .loop c => codeAt p c
  | _, c => c
section
variable {P : Program} {run : RunF} {fast : XS → Option (XE × XS)} {N fuel : Nat}
theorem RunOk.at (hR : RunOk P run) {rd : Bool} {c : Code} (hok : okCode N rd c = true) : RunAt P (run N c) N c :=
  fun s e s' he F ρ h T Q hs hk => hR N rd c s e s' he hok F ρ h T Q hs hk
theorem seqAt {a b : Code} {f g : XS → Option (XE × XS)} (hf : RunAt P f N a) (hg : RunAt P g N b) : RunAt P (fun s => match f s with
    | some (.normal, s) => g s
    | r => r) N (.seq a b) := by
  intro s e s' he F ρ h T Q hs hk
  show awp P N a (athen (awp P N b Q) Q) T h
  simp only at he
  split at he
  · rename_i s1 h1
    refine hf _ _ _ h1 F ρ h T _ hs fun ρ1 T1 h2 hle1 hs1 => ?_
    exact hg _ _ _ he F ρ1 h2 T1 _ hs1 fun ρ2 T2 h3 hle2 hs2 => hk ρ2 T2 h3 (Ren.le_trans hle1 hle2) hs2
  · rename_i hn
    refine hf _ _ _ he F ρ h T _ hs fun ρ1 T1 h2 hle1 hs1 => ?_
    have := hk ρ1 T1 h2 hle1 hs1
    cases e with
    | normal => exact (hn s' he).elim
    | ret => exact this
    | exit j => exact this
theorem blockAt {c : Code} {id : Nat} {f : XS → Option (XE × XS)} (hf : RunAt P f N c) : RunAt P (fun s => match f s with
    | some (.exit j, s) => bif Nat.beq j id then some (.normal, s) else some (.exit j, s)
    | r => r) N (.block id c) := by
  intro s e s' he F ρ h T Q hs hk
  show awp P N c (ablock id Q) T h
  simp only at he
  split at he
  · rename_i j s1 h1
    refine hf _ _ _ h1 F ρ h T _ hs fun ρ1 T1 h2 hle1 hs1 => ?_
    show (bif Nat.beq j id then Q .normal else Q (.exit j)) T1 h2
    cases hb : Nat.beq j id
    · rw [hb] at he; cases he
      exact hk ρ1 T1 h2 hle1 hs1
    · rw [hb] at he; cases he
      exact hk ρ1 T1 h2 hle1 hs1
  · rename_i hn
    refine hf _ _ _ he F ρ h T _ hs fun ρ1 T1 h2 hle1 hs1 => ?_
    have := hk ρ1 T1 h2 hle1 hs1
    cases e with
    | normal => exact this
    | ret => exact this
    | exit j => exact (hn j s' he).elim
theorem loopAt {c : Code} {f : XS → Option (XE × XS)} (hf : RunAt P f N c) : RunAt P (iterX f fuel) N (.loop c) := by
  intro s e s' he F ρ h T Q hs hk
  show sloop (fun t h K => awp P N c (athen K Q) t h) T h
  refine ⟨fun m T1 h1 => ∃ s1 ρ1, ρ.le ρ1 ∧ SR F ρ1 N s1 T1 h1 ∧ iterX f m s1 = some (e, s'), ⟨fuel, s, ρ, Ren.le_refl ρ, hs, he⟩, ?_⟩
  rintro m T1 h1 ⟨s1, ρ1, hle1, hs1, he1⟩
  cases m with
  | zero => cases he1
  | succ m =>
    simp only [iterX] at he1
    split at he1
    · rename_i s2 h2
      exact hf _ _ _ h2 F ρ1 h1 T1 _ hs1 fun ρ2 T2 h3 hle2 hs2 => ⟨m, Nat.lt_succ_self m, s2, ρ2, Ren.le_trans hle1 hle2, hs2, he1⟩
    · rename_i hn
      refine hf _ _ _ he1 F ρ1 h1 T1 _ hs1 fun ρ2 T2 h3 hle2 hs2 => ?_
      have := hk ρ2 T2 h3 (Ren.le_trans hle1 hle2) hs2
      cases e with
      | normal => exact (hn s' he1).elim
      | ret => exact this
      | exit j => exact this
theorem runP_ok (hR : RunOk P run) {rd : Bool} : ∀ (p : List Stp) {c : Code}, okCode N rd c = true → RunAt P fast N (codeAt p c) → RunAt P (runP run fast N fuel p c) N c
  | [], c, hok, hf => by
    intro s e s' he F ρ h T Q hs hk
    simp only [runP] at he
    split at he
    · rename_i r hr
      rw [← hr] at he
      have hc : codeAt [] c = c := by cases c <;> rfl
      rw [hc] at hf
      exact hf _ _ _ he F ρ h T Q hs hk
    · exact hR.at hok _ _ _ he F ρ h T Q hs hk
  | x :: p, c, hok, hf => by
    cases x <;> cases c <;> try (intro s e s' he; cases he; done)
    · rename_i a b
      have hok' : okCode N rd a = true ∧ okCode N rd b = true := by simpa [okCode] using hok
      exact seqAt (runP_ok hR p hok'.1 hf) (hR.at hok'.2)
    · rename_i a b
      have hok' : okCode N rd a = true ∧ okCode N rd b = true := by simpa [okCode] using hok
      exact seqAt (hR.at hok'.1) (runP_ok hR p hok'.2 hf)
    · rename_i id c
      exact blockAt (runP_ok hR p (show okCode N rd c = true from hok) hf)
    · rename_i c
      exact loopAt (runP_ok hR p (show okCode N rd c = true from hok) hf)
def xbodyP (P : Program) (run : XS → Option (XE × XS)) (mask : Nat) (fn : Func) (c : Code) (args : List XA) (eh : EH) (n : Nat) : Res :=
  bif okBody fn c && Nat.ble args.length fn.ntmps then
    (match run ⟨targs 0 args (XT.new mask), eh, n, []⟩ with
    | some (.normal, s) => xret P fn.results.toList s
    | some (.ret, s) => xret P fn.results.toList s
    | _ => none) else none
theorem xbodyP_ok (hm : P.follows .mixedOrders = true) {f : Nat} {fn : Func} {c : Code} {runc : XS → Option (XE × XS)} {mask : Nat} (hf : P.funcs[f]? = some fn) (hb : fn.body = some c) (hR : RunAt P runc fn.ntmps c) :
    CallOk P (fun g args eh n => bc (Nat.beq g f) (xbodyP P runc mask fn c args eh n) none) := by
  intro g args eh n r he F ρ h args' hs ha
  simp only at he
  cases hg : Nat.beq g f
  · rw [hg] at he; cases he
  rw [hg, bc_true] at he
  obtain rfl := Nat.eq_of_beq_eq_true hg
  unfold xbodyP at he
  cases hc : (okBody fn c && Nat.ble args.length fn.ntmps)
  · rw [hc] at he; cases he
  · rw [hc, cond_true] at he
    simp only [Bool.and_eq_true, okBody] at hc
    obtain ⟨⟨c1, c2⟩, c3⟩ := hc
    have c3 := ble_iff.1 c3
    have hl := ha.length
    have hs0 : SR F ρ fn.ntmps ⟨targs 0 args (XT.new mask), eh, n, []⟩ (tinit args') h := by
      refine ⟨hs, targs_ok ha, ?_⟩
      have h0 : tinit args' fn.ntmps = undef := by simp [tinit, ← hl, c3]
      rw [h0]; exact .nil
    refine spec_of_bodyC hm hf hb rfl c1 c2 (by omega) ?_
    split at he
    · rename_i s hrun
      exact hR _ _ _ hrun F ρ h _ _ hs0 fun ρ' T' h' hle hs' => xret_ok hs' he fun v h'' g1 g2 => ⟨ρ', hle, g1, g2⟩
    · rename_i s hrun
      exact hR _ _ _ hrun F ρ h _ _ hs0 fun ρ' T' h' hle hs' => xret_ok hs' he fun v h'' g1 g2 => ⟨ρ', hle, g1, g2⟩
    · cases he
end
end
end Go.Proofs.YtcohcmlidmaaoaaGreat.AM
