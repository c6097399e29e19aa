/-
  A range over a function, over the abstract memory.
-/
import Derived.Test.YtjdhldfeflmneaaGreatAMEq
set_option linter.unusedSimpArgs false
set_option linter.unusedVariables false
namespace Go.Proofs.YtjdhldfeflmneaaGreat.AM

section
variable {P : Program}
theorem byEq {A B : Prop} (h : A) (e : A = B) : B := e ▸ h
abbrev LObj := LoopState → Option Code → AObj
/-- A range over a function: its loop stands at l, its rounds are told by R. -/
def o_rangeFunc (P : Program) (R : LObj → Nat → List Value → H → (Value → H → Prop) → Prop) (g m : Value) (h : H) (Kn Kr : Value → H → Prop) : Prop :=
  ∀ (l d : Nat) (L : LObj), 2 ≤ l → 2 ≤ d → l ≠ d → h l = none → h d = none →
    (∀ s p cs E m, L s p ≠ .cells cs E m) →
    (∀ args h K, h l = some (L .ready none) → R L l args h K → YSpec P l args h K) →
    o_rangeCall P g (.func (.yield l) #[] #[]) (upd (upd h d .defer) l (L .ready none)) fun _ h' =>
      (h' l = some (L .ready none) ∧ Kn (addMark m d) (del h' l)) ∨ (h' l = some (L .done (some .ret)) ∧ Kr (addMark m d) (del h' l))
def isRF : Code → Bool | .rangeFunc _ _ _ _ => true | _ => false
def rfG : Code → Operand | .rangeFunc g _ _ _ => g | _ => .const .nilIface
def rfPs : Code → Array Tmp | .rangeFunc _ ps _ _ => ps | _ => #[]
def rfA : Code → Code | .rangeFunc _ _ a _ => a | c => c
def rfB : Code → Code | .rangeFunc _ _ _ b => b | c => c
def rfL (c : Code) (t : T) (N : Nat) : LObj := fun s p => .loop s p t N (rfPs c) (rfA c) (rfB c)
def roundK (L : LObj) (l : Nat) (K : Value → H → Prop) : H → Prop := fun h => h l = some (L .busy none) ∧ K (.bool true) (upd h l (L .ready none))
def roundR (L : LObj) (l : Nat) (K : Value → H → Prop) : H → Prop := fun h => h l = some (L .busy none) ∧ K (.bool false) (upd h l (L .done (some .ret)))
/-- What a round must come to. -/
def Round (P : Program) (N : Nat) (c : Code) (t : T) (l : Nat) (args : List Value) (h : H) (K : Value → H → Prop) : Prop :=
  (rfPs c).size = args.length ∧ Wp P N (rfA c) (mkQ (fun t1 h1 => h1 l = some (rfL c t N .ready none) ∧ Wp P N (rfB c) (mkQ (fun _ h => roundK (rfL c t N) l K h) (fun _ h => roundR (rfL c t N) l K h) ke0) t1 (upd h1 l (rfL c t N .busy none))) (fun _ _ => False) ke0) (tround N t (rfPs c) args) h
theorem o_rangeCall_mono {fv y : Value} {h : H} {K K' : Value → H → Prop} (hk : ∀ v h, K v h → K' v h) (ho : o_rangeCall P fv y h K) : o_rangeCall P fv y h K' := by
  unfold o_rangeCall at *
  split
  · exact ⟨ho.1, ho.2.mono hk⟩
  · rename_i hn
    split at ho
    · rename_i f a b; exact absurd rfl (hn f a b)
    · exact ho
theorem range_ok (hm : P.follows .mixedOrders = true) {N : Nat} {kn kr : T → H → Prop} {ke : Nat → T → H → Prop} {c : Code} {t : T} {h : H} {R : LObj → Nat → List Value → H → (Value → H → Prop) → Prop} {A : Prop} (h0 : A) (hi : isRF c = true)
    (hps : (rfPs c).toList.all (fun p => Nat.blt p N) = true) (hoka : okCode N true (rfA c) = true) (hokb : okCode N true (rfB c) = true)
    (hR : ∀ l args h K, R (rfL c t N) l args h K → Round P N c t l args h K)
    (e : A = o_rangeFunc P R (aev t (rfG c)) (t N) h (fun m h => kn (tset t N m) h) (fun m h => kr (tset t N m) h)) : Wp P N c (mkQ kn kr ke) t h := by
  have ho := e ▸ h0
  cases c <;> simp only [isRF, Bool.false_eq_true] at hi
  rename_i g ps assign body
  refine ⟨?_⟩
  intro l d hl2 hd2 hld hl hd
  refine o_rangeCall_mono (fun v h' hh => ?_) (ho l d (rfL (.rangeFunc g ps assign body) t N) hl2 hd2 hld hl hd (fun s p cs E m he => by cases he) fun args h K hlr hr => ?_)
  · rcases hh with ⟨h1, h2⟩ | ⟨h1, h2⟩
    · simp only [rfL, rfPs, rfA, rfB] at h1
      simp only [h1]; exact h2
    · simp only [rfL, rfPs, rfA, rfB] at h1
      simp only [h1]; exact h2
  · obtain ⟨g1, g2⟩ := hR l args h K hr
    refine yspec_of hm hlr hps g1 hoka hokb ?_
    refine awp_mono _ (fun e t1 h1 he => ?_) g2.ok
    cases e with
    | normal =>
      refine ⟨he.1, awp_mono _ (fun e t2 h2 he => ?_) he.2.ok⟩
      cases e with
      | normal => exact he
      | ret => exact he
      | _ => exact absurd he id
    | _ => exact absurd he id

def o_ret (m : Value) (h : H) (K : H → Prop) : Prop :=
  match marks m with
  | [] => K h
  | ds => ds.Nodup ∧ (∀ d ∈ ds, h d = some .defer) ∧ K (fun b => if b ∈ ds then none else h b)
theorem spec_wpm (hm : P.follows .mixedOrders = true) {f : FuncId} {fn : Func} {c : Code} {rs : List Nat} {N : Nat} {args : List Value} {h : H} {Q : Value → H → Prop} {Q1 : Exit → T → H → Prop} (hf : P.funcs[f]? = some fn) (hb : fn.body = some c)
    (hrs : fn.results = (rs.map ResultVar.tmp).toArray) (hn : fn.ntmps = N) (hok : okCode N false c = true) (hrN : rs.all (fun r => Nat.blt r N) = true) (hlen : args.length ≤ N) (hk : Wp P N c Q1 (tinit args) h) (he : Q1 = mkQ (retQ N rs Q) (retQ N rs Q) ke0) : Spec P f args h Q := by
  subst he
  exact spec_of_body hm hf hb hrs hn hok hrN hlen (awp_mono c (fun e t h he => by cases e <;> exact he) hk.ok)
end
end Go.Proofs.YtjdhldfeflmneaaGreat.AM
