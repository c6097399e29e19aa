/-
  The abstract memory and the model's: laws of the relation between them.
-/
import Derived.Test.YtjdhldfeflmneaaGreatAMDefs
import Derived.WalkKit
set_option linter.unusedSimpArgs false
set_option linter.unusedVariables false
namespace Go.Proofs.YtjdhldfeflmneaaGreat.AM
open Go.RowKit

/-! ### Lists -/
section All2
variable {α β : Type} {R S : α → β → Prop}
theorem All2.mono {l : List α} {m : List β} (h : All2 R l m) (hr : ∀ a b, R a b → S a b) : All2 S l m := by
  induction h with
  | nil => exact .nil
  | cons h _ ih => exact .cons (hr _ _ h) ih
theorem All2.length {l : List α} {m : List β} (h : All2 R l m) : l.length = m.length := by
  induction h with
  | nil => rfl
  | cons _ _ ih => simp [ih]
theorem All2.get {l : List α} {m : List β} (h : All2 R l m) : ∀ {i : Nat} {a : α}, l[i]? = some a → ∃ b, m[i]? = some b ∧ R a b := by
  induction h with
  | nil => intro i a h; simp at h
  | cons h t ih =>
    intro i a hi
    cases i with
    | zero => simp at hi; subst hi; exact ⟨_, rfl, h⟩
    | succ i => simp at hi; simpa using ih hi
theorem All2.get' {l : List α} {m : List β} (h : All2 R l m) : ∀ {i : Nat} {b : β}, m[i]? = some b → ∃ a, l[i]? = some a ∧ R a b := by
  induction h with
  | nil => intro i a h; simp at h
  | cons h t ih =>
    intro i a hi
    cases i with
    | zero => simp at hi; subst hi; exact ⟨_, rfl, h⟩
    | succ i => simp at hi; simpa using ih hi
theorem All2.of_get {l : List α} {m : List β} (hl : l.length = m.length) (h : ∀ (i : Nat) (a : α) (b : β), l[i]? = some a → m[i]? = some b → R a b) : All2 R l m := by
  induction l generalizing m with
  | nil => cases m with
    | nil => exact .nil
    | cons => simp at hl
  | cons x l ih => cases m with
    | nil => simp at hl
    | cons y m =>
      refine .cons (h 0 _ _ rfl rfl) (ih (by simpa using hl) fun i a b ha hb => h (i + 1) a b (by simpa using ha) (by simpa using hb))
theorem All2.append {l l' : List α} {m m' : List β} (h : All2 R l m) (k : All2 R l' m') : All2 R (l ++ l') (m ++ m') := by
  induction h with
  | nil => exact k
  | cons h _ ih => exact .cons h ih
theorem All2.take {l : List α} {m : List β} (n : Nat) (h : All2 R l m) : All2 R (l.take n) (m.take n) := by
  induction h generalizing n with
  | nil => simp; exact .nil
  | cons h _ ih => cases n with
    | zero => exact .nil
    | succ n => exact .cons h (ih n)
theorem All2.drop {l : List α} {m : List β} (n : Nat) (h : All2 R l m) : All2 R (l.drop n) (m.drop n) := by
  induction h generalizing n with
  | nil => simp; exact .nil
  | cons h t ih => cases n with
    | zero => exact .cons h t
    | succ n => exact ih n
theorem All2.set {l : List α} {m : List β} (h : All2 R l m) (i : Nat) {a b} (hab : R a b) : All2 R (l.set i a) (m.set i b) := by
  induction h generalizing i with
  | nil => exact .nil
  | cons h t ih => cases i with
    | zero => exact .cons hab t
    | succ i => exact .cons h (ih i)
theorem All2.map {γ δ : Type} {R' : γ → δ → Prop} {l : List α} {m : List β} (f : α → γ) (g : β → δ) (h : All2 R l m) (hr : ∀ a b, R a b → R' (f a) (g b)) : All2 R' (l.map f) (m.map g) := by
  induction h with
  | nil => exact .nil
  | cons h _ ih => exact .cons (hr _ _ h) ih
theorem All2.refl_of {l : List α} {R : α → α → Prop} (h : ∀ a ∈ l, R a a) : All2 R l l := by
  induction l with
  | nil => exact .nil
  | cons x l ih => exact .cons (h x (by simp)) (ih fun a ha => h a (by simp [ha]))
end All2

/-! ### The values' relation -/
section rel
variable {ι ι' : Env}
theorem Env.le_refl (ι : Env) : Env.le ι ι := fun _ _ h => h
theorem Env.le_trans {a b c : Env} (h : Env.le a b) (k : Env.le b c) : Env.le a c := fun x l hx => k x l (h x l hx)
theorem SRel.mono {v v' : Value} (h : SRel ι v v') (hle : Env.le ι ι') : SRel ι' v v' := by
  cases h with
  | ptr h => exact .ptr (hle _ _ h)
  | slice h => exact .slice (hle _ _ h)
  | map h => exact .map (hle _ _ h)
  | _ => constructor
theorem CRel.mono {v v' : Value} (h : CRel ι v v') (hle : Env.le ι ι') : CRel ι' v v' := by
  cases h with
  | s h => exact .s (h.mono hle)
  | func f h k => exact .func f (h.mono fun _ _ h => h.mono hle) (k.mono fun _ _ h => h.mono hle)
  | yield h => exact .yield (hle _ _ h)
  | iface t h => exact .iface t (h.mono hle)
theorem ARel.mono {v v' : Value} (h : ARel ι v v') (hle : Env.le ι ι') : ARel ι' v v' := by
  cases h with
  | c h => exact .c (h.mono hle)
  | agg h => exact .agg (h.mono fun _ _ h => h.mono hle)
theorem VRel.mono {v v' : Value} (h : VRel ι v v') (hle : Env.le ι ι') : VRel ι' v v' := by
  cases h with
  | a h => exact .a (h.mono hle)
  | tuple h => exact .tuple (h.mono fun _ _ h => h.mono hle)
theorem TRel.mono {N : Nat} {t : T} {tmps : Array Value} (h : TRel ι N t tmps) (hle : Env.le ι ι') : TRel ι' N t tmps := ⟨h.1, fun i hi => (h.2 i hi).mono hle⟩

theorem crel_self {v : Value} (h : selfC v = true) : CRel ι v v := by
  unfold selfC at h
  split at h <;> first
    | exact .s (by constructor)
    | (simp only [Bool.and_eq_true, beq_iff_eq] at h
       obtain ⟨h1, h2⟩ := h
       obtain rfl := Array.eq_empty_of_size_eq_zero h1
       obtain rfl := Array.eq_empty_of_size_eq_zero h2
       exact .func _ .nil .nil)
    | cases h
theorem arel_self {v : Value} (h : selfA v = true) : ARel ι v v := by
  unfold selfA at h
  split at h
  · exact .agg (All2.refl_of fun a ha => crel_self (List.all_eq_true.1 h a ha))
  · exact .c (crel_self h)
theorem vrel_self {v : Value} (h : selfV v = true) : VRel ι v v := by
  unfold selfV at h
  split at h
  · exact .tuple (All2.refl_of fun a ha => arel_self (List.all_eq_true.1 h a ha))
  · exact .a (arel_self h)
theorem crel_eq {v v' : Value} (h : selfC v = true) (k : CRel ι v v') : v' = v := by
  cases k with
  | s k => cases k <;> first | rfl | (simp [selfC] at h)
  | @func f xs ys xs' ys' a b =>
    have h' : (xs.size == 0 && ys.size == 0) = true := h
    simp only [Bool.and_eq_true, beq_iff_eq] at h'
    obtain ⟨e1, e2⟩ := h'
    have h1 := a.length; have h2 := b.length
    simp only [Array.length_toList] at h1 h2
    rw [Array.eq_empty_of_size_eq_zero e1, Array.eq_empty_of_size_eq_zero e2, Array.eq_empty_of_size_eq_zero (xs := xs') (by omega), Array.eq_empty_of_size_eq_zero (xs := ys') (by omega)]
  | yield k => simp [selfC] at h
  | iface t k => simp [selfC] at h
theorem all2_crel_eq {l m : List Value} (k : All2 (CRel ι) l m) (h : l.all selfC = true) : m = l := by
  induction k with
  | nil => rfl
  | cons hab _ ih =>
    simp only [List.all_cons, Bool.and_eq_true] at h
    rw [crel_eq h.1 hab, ih h.2]
theorem arel_eq {v v' : Value} (h : selfA v = true) (k : ARel ι v v') : v' = v := by
  cases k with
  | c k =>
    unfold selfA at h
    split at h
    · cases k with | s k => cases k
    · exact crel_eq h k
  | agg k =>
    rename_i xs ys
    have := all2_crel_eq k h
    rw [show ys = xs from Array.ext' this]
theorem vrel_eq {v v' : Value} (h : selfV v = true) (k : VRel ι v v') : v' = v := by
  cases k with
  | a k =>
    unfold selfV at h
    split at h
    · cases k with | c k => cases k with | s k => cases k
    · exact arel_eq h k
  | tuple k =>
    rename_i xs ys
    have h' : xs.toList.all selfA = true := h
    have : ys.toList = xs.toList := by
      clear h
      generalize xs.toList = l at *
      generalize ys.toList = m at *
      induction k with
      | nil => rfl
      | cons hab _ ih =>
        simp only [List.all_cons, Bool.and_eq_true] at h'
        rw [arel_eq h'.1 hab, ih h'.2]
    rw [Array.ext' this]

theorem VRel.toA {v v' : Value} (h : VRel ι v v') (hb : boxV v = true) : ARel ι v v' := by
  cases h with
  | a h => exact h
  | tuple h => simp [boxV] at hb
theorem ARel.toC {v v' : Value} (h : ARel ι v v') (hb : cellV v = true) : CRel ι v v' := by
  cases h with
  | c h => exact h
  | agg h => simp [cellV] at hb
theorem VRel.cell {v v' : Value} (h : VRel ι v v') (hb : cellV v = true) : CRel ι v v' :=
  (h.toA (by cases v <;> simp_all [cellV, boxV])).toC hb
theorem CRel.toS {v v' : Value} (h : CRel ι v v') (hb : plainC v = true) : SRel ι v v' := by
  cases h with
  | s h => exact h
  | func f a b => simp [plainC] at hb
  | yield h => simp [plainC] at hb
  | iface t h => simp [plainC] at hb
theorem cellV_of_plain {v : Value} (h : plainC v = true) : cellV v = true ∧ boxV v = true := by
  cases v <;> simp_all [plainC, cellV, boxV]
theorem VRel.toS {v v' : Value} (h : VRel ι v v') (hb : plainC v = true) : SRel ι v v' :=
  ((h.toA (cellV_of_plain hb).2).toC (cellV_of_plain hb).1).toS hb
theorem CRel.cellV {v v' : Value} (h : CRel ι v v') : cellV v = true ∧ cellV v' = true := by
  cases h with
  | s h => cases h <;> simp [AM.cellV]
  | _ => simp [AM.cellV]
theorem CRel.one {v v' : Value} (h : CRel ι v v') : v'.oneCell' = true := by
  cases h with
  | s h => cases h <;> rfl
  | _ => rfl
theorem ARel.cells {v v' : Value} (h : ARel ι v v') : All2 (CRel ι) v.cells.toList v'.cells.toList := by
  cases h with
  | agg h => exact h
  | c h =>
    have h1 : v.cells = #[v] := by have := h.cellV.1; cases v <;> simp_all [Value.cells, AM.cellV]
    have h2 : v'.cells = #[v'] := by have := h.cellV.2; cases v' <;> simp_all [Value.cells, AM.cellV]
    rw [h1, h2]
    exact .cons h .nil
theorem ARel.size {v v' : Value} (h : ARel ι v v') : v'.cells.size = v.cells.size := by
  have := h.cells.length
  simpa using this.symm
theorem VRel.undef : VRel ι undef undef := .tuple .nil
theorem VRel.bool {b : Bool} {v' : Value} (h : VRel ι (.bool b) v') : v' = .bool b := vrel_eq rfl h
theorem VRel.int {k : IntKind} {n : Int} {v' : Value} (h : VRel ι (.int k n) v') : v' = .int k n := vrel_eq rfl h
theorem VRel.string {s : ByteArray} {v' : Value} (h : VRel ι (.string s) v') : v' = .string s := vrel_eq rfl h
theorem VRel.ptr {b o : Nat} {v' : Value} (h : VRel ι (.pointer (some ⟨b, o, none⟩)) v') : ∃ l, ι b = some l ∧ v' = .pointer (some ⟨l.b, l.o + o, none⟩) := by
  cases h with | a h => cases h with | c h => cases h with | s h => cases h with | ptr h => exact ⟨_, h, rfl⟩
theorem VRel.agg {cs : Array Value} {v' : Value} (h : VRel ι (.agg cs) v') : ∃ cs', v' = .agg cs' ∧ All2 (CRel ι) cs.toList cs'.toList := by
  cases h with | a h => cases h with
    | agg h => exact ⟨_, rfl, h⟩
    | c h => cases h with | s h => cases h
theorem VRel.tup {vs : Array Value} {v' : Value} (h : VRel ι (.tuple vs) v') : ∃ vs', v' = .tuple vs' ∧ All2 (ARel ι) vs.toList vs'.toList := by
  cases h with
  | tuple h => exact ⟨_, rfl, h⟩
  | a h => cases h with | c h => cases h with | s h => cases h
theorem VRel.notBool {v v' : Value} (h : VRel ι v v') (b : Bool) : v' = .bool b → v = .bool b := by
  intro e; subst e
  cases h with | a h => cases h with | c h => cases h with | s h => cases h; rfl
end rel

/-! ### The memories' relation -/
section mem
variable {P : Program} {W : World} {ι ι' : Env} {h : H} {w w' : World}

theorem HRel.drop {h' : H} (hr : HRel P W ι h w) (hle : ∀ b o, h' b = some o → h b = some o) : HRel P W ι h' w :=
  ⟨hr.nxt, hr.z0, hr.z1, hr.below, hr.inb, fun b o hb => hr.obj b o (hle b o hb),
   fun b b' o o' l l' hne hb hb' => hr.sep b b' o o' l l' hne (hle b o hb) (hle b' o' hb')⟩

theorem ORel.same {B : Nat} {l : Loc} {o : AObj} (hw : w'.heap = w.heap) (h : ORel P B ι l w o) : ORel P B ι l w' o := by
  cases o <;> simp only [ORel, hw] at * <;> exact h
theorem HRel.world (hr : HRel P W ι h w) (hw : w'.heap = w.heap) (h1 : w'.os = w.os) (h2 : w'.tape = w.tape) (h3 : w'.output = w.output) : HRel P W ι h w' :=
  ⟨hr.nxt, hr.z0, hr.z1, ⟨h1.trans hr.below.os, h2.trans hr.below.tape, h3.trans hr.below.output, by rw [hw]; exact hr.below.size, fun k hk => by rw [hw]; exact hr.below.block k hk⟩,
   fun b l hb => by rw [hw]; exact hr.inb b l hb,
   fun b o hb => let ⟨l, hl, ho⟩ := hr.obj b o hb; ⟨l, hl, ho.same hw⟩, hr.sep⟩
theorem HRel.drawn (hr : HRel P W ι h w) (n : Nat) : HRel P W ι h { w with drawn := n } := hr.world rfl rfl rfl rfl

theorem ORel.keep {B : Nat} {l : Loc} {o : AObj} (hle : Env.le ι ι') (hb : w'.heap[l.b]? = w.heap[l.b]?)
    (hm : ∀ m lm, ι m = some lm → w'.heap[lm.b]? = w.heap[lm.b]? ∨ ∀ ces' clock', w'.heap[lm.b]? = some (.map ces' clock') → ∃ ces clock, w.heap[lm.b]? = some (.map ces clock) ∧ clock ≤ clock' ∧
      (clock' = clock → ∀ ce' ∈ ces'.toList, ∃ ce ∈ ces.toList, ce.born = ce'.born ∧ ce.key = ce'.key))
    (h : ORel P B ι l w o) : ORel P B ι' l w' o := by
  cases o with
  | cells cs E m =>
    obtain ⟨ccs, CE, lo, hi, h1, h2, h3⟩ := h
    exact ⟨ccs, CE, lo, hi, hb.trans h1, fun i v hi => let ⟨v', ha, hc⟩ := h2 i v hi; ⟨v', ha, hc.mono hle⟩, h3⟩
  | map kk es c =>
    obtain ⟨h0, h1, ces, h2, h3, h4⟩ := h
    exact ⟨h0, h1, ces, hb.trans h2, h3.mono fun a b ⟨x, y, z⟩ => ⟨x, y, z.mono hle⟩, h4⟩
  | iter mo left since cur =>
    obtain ⟨h0, h1, cm, since', seen, stepped, h2, h3⟩ := h
    refine ⟨h0, h1, cm, since', seen, stepped, hb.trans h2, ?_⟩
    cases mo with
    | none => exact h3
    | some m =>
      obtain ⟨lm, hlm, e1, e2, e3, h4, h7⟩ := h3
      refine ⟨lm, hle _ _ hlm, e1, e2, e3, ?_, fun k hk => ?_⟩
      rotate_left
      · obtain ⟨st, h8, h9⟩ := h7 k hk
        refine ⟨st, h8, fun ces' clock' hc' hcs ce' hce' => ?_⟩
        rcases hm m lm hlm with hs | hs
        · exact h9 ces' clock' (hs ▸ hc') hcs ce' hce'
        · obtain ⟨ces, clock, hc, hle', hsub⟩ := hs ces' clock' hc'
          obtain ⟨h5, _⟩ := h4 ces clock hc
          obtain ⟨ce, hce, hb', hk'⟩ := hsub (by omega) ce' hce'
          rw [← hb', ← hk']
          exact h9 ces clock hc (by omega) ce hce
      intro ces' clock' hc'
      rcases hm m lm hlm with hs | hs
      · exact h4 ces' clock' (hs ▸ hc')
      · obtain ⟨ces, clock, hc, hle', hsub⟩ := hs ces' clock' hc'
        obtain ⟨h5, h6⟩ := h4 ces clock hc
        refine ⟨Nat.le_trans h5 hle', fun he ce' hce' => ?_⟩
        have hcs : clock = since := by omega
        obtain ⟨ce, hce, hb', hk'⟩ := hsub (by omega) ce' hce'
        rw [← hb', ← hk']
        exact h6 hcs ce hce
  | loop st pend t N ps assign body =>
    obtain ⟨h0, h1, L, h2, h3, h4, h5, h6⟩ := h
    exact ⟨h0, h1, L, hb.trans h2, h3, h4, h5.mono hle, h6⟩
  | defer =>
    obtain ⟨h0, h1, h2⟩ := h
    exact ⟨h0, h1, hb.trans h2⟩

/-- One block is laid, or laid anew; nothing else turns. -/
theorem HRel.put (hr : HRel P W ι h w) {b : Nat} {l : Loc} {o : AObj} (hle : Env.le ι ι') (hb : ι' b = some l) (hne : ∀ c, c ≠ b → ι' c = ι c) (h2 : 2 ≤ b)
    (hB : W.heap.size ≤ l.b) (hin : l.b < w'.heap.size) (hsz : w.heap.size ≤ w'.heap.size) (hkeep : ∀ c, c ≠ l.b → c < w.heap.size → w'.heap[c]? = w.heap[c]?)
    (hos : w'.os = w.os) (htape : w'.tape = w.tape) (hout : w'.output = w.output)
    (hsep : ∀ c oc lc, c ≠ b → h c = some oc → ι c = some lc → oc.ro = false → lc.b ≠ l.b)
    (hmap : l.b < w.heap.size → ∀ ces' clock', w'.heap[l.b]? = some (.map ces' clock') → ∃ ces clock, w.heap[l.b]? = some (.map ces clock) ∧ clock ≤ clock' ∧
      (clock' = clock → ∀ ce' ∈ ces'.toList, ∃ ce ∈ ces.toList, ce.born = ce'.born ∧ ce.key = ce'.key))
    (ho : ORel P W.heap.size ι' l w' o) : HRel P W ι' (upd h b o) w' := by
  have hro : ∀ c cs E lc, h c = some (.cells cs E .ro) → ι c = some lc → lc.b < W.heap.size := fun c cs E lc hc hlc => by
    obtain ⟨l', hl', ho'⟩ := hr.obj c _ hc
    obtain rfl : l' = lc := by rw [hlc] at hl'; exact (Option.some.inj hl').symm
    obtain ⟨_, _, _, _, _, _, h3, _⟩ := ho'
    exact h3 rfl
  have hlb : ∀ c oc lc, c ≠ b → h c = some oc → ι c = some lc → lc.b ≠ l.b := fun c oc lc hc hoc hlc he => by
    by_cases hx : oc.ro = false
    · exact hsep c oc lc hc hoc hlc hx he
    · cases oc with
      | cells cs E m => cases m with
        | ro => have := hro c cs E lc hoc hlc; omega
        | _ => simp [AObj.ro] at hx
      | _ => simp [AObj.ro] at hx
  refine ⟨?_, ?_, ?_, ?_, ?_, ?_, ?_⟩
  · obtain ⟨n, hn⟩ := hr.nxt
    refine ⟨max n (b + 1), fun c hc => ?_⟩
    rw [hne c (by omega)]
    exact hn c (by omega)
  · rw [hne 0 (by omega)]; exact hr.z0
  · rw [hne 1 (by omega)]; exact hr.z1
  · refine ⟨hos.trans hr.below.os, htape.trans hr.below.tape, hout.trans hr.below.output, Nat.le_trans hr.below.size hsz, fun k hk => ?_⟩
    have h1 := hr.below.size
    rw [hkeep k (by omega) (by omega)]
    exact hr.below.block k hk
  · intro c lc hc
    by_cases hcb : c = b
    · subst hcb; rw [hb] at hc; cases hc; exact hin
    · rw [hne c hcb] at hc
      exact Nat.lt_of_lt_of_le (hr.inb c lc hc) hsz
  · intro c oc hc
    by_cases hcb : c = b
    · subst hcb; rw [upd_same] at hc; cases hc; exact ⟨l, hb, ho⟩
    · rw [upd_ne _ _ hcb] at hc
      obtain ⟨lc, hlc, hoc⟩ := hr.obj c oc hc
      refine ⟨lc, hle _ _ hlc, hoc.keep hle (hkeep lc.b (hlb c oc lc hcb hc hlc) (hr.inb c lc hlc)) fun m lm hm => ?_⟩
      by_cases hmb : lm.b = l.b
      · rw [hmb]; exact .inr (hmap (hmb ▸ hr.inb m lm hm))
      · exact .inl (hkeep lm.b hmb (hr.inb m lm hm))
  · intro c c' oc oc' lc lc' hcc hc hc' hlc hlc' hoc hoc'
    by_cases hcb : c = b
    · subst hcb
      rw [hb] at hlc; cases hlc
      rw [upd_ne _ _ (Ne.symm hcc)] at hc'
      rw [hne c' (Ne.symm hcc)] at hlc'
      exact Ne.symm (hsep c' oc' lc' (Ne.symm hcc) hc' hlc' hoc')
    · rw [upd_ne _ _ hcb] at hc
      rw [hne c hcb] at hlc
      by_cases hcb' : c' = b
      · subst hcb'
        rw [hb] at hlc'; cases hlc'
        exact hsep c oc lc hcb hc hlc hoc
      · rw [upd_ne _ _ hcb'] at hc'
        rw [hne c' hcb'] at hlc'
        exact hr.sep c c' oc oc' lc lc' hcc hc hc' hlc hlc' hoc hoc'

def Env.set (ι : Env) (b : Nat) (l : Loc) : Env := fun c => if c = b then some l else ι c
theorem Env.set_same (ι : Env) (b : Nat) (l : Loc) : ι.set b l b = some l := by simp [Env.set]
theorem Env.set_ne (ι : Env) {b c : Nat} (l : Loc) (hc : c ≠ b) : ι.set b l c = ι c := by simp [Env.set, hc]
theorem Env.le_set {ι : Env} {b : Nat} (l : Loc) (hb : ι b = none) : Env.le ι (ι.set b l) := fun c lc hc => by
  rw [Env.set_ne]; · exact hc
  · rintro rfl; rw [hb] at hc; cases hc

/-- A name that nothing bears. -/
theorem HRel.fresh (hr : HRel P W ι h w) : ∃ b, 2 ≤ b ∧ ι b = none ∧ h b = none := by
  obtain ⟨n, hn⟩ := hr.nxt
  refine ⟨max n 2, by omega, hn _ (by omega), ?_⟩
  cases hh : h (max n 2) with
  | none => rfl
  | some o =>
    obtain ⟨l, hl, _⟩ := hr.obj _ _ hh
    rw [hn _ (by omega)] at hl; cases hl

theorem alloc_get_lt (w : World) (o : Obj) {k : Nat} (h : k < w.heap.size) : (w.alloc o).heap[k]? = w.heap[k]? := Below.heap_alloc w o k h
theorem alloc_get_new (w : World) (o : Obj) : (w.alloc o).heap[w.heap.size]? = some o := by
  show (w.heap.push o)[w.heap.size]? = some o
  simp

/-- A new block. -/
theorem HRel.new (hr : HRel P W ι h w) {b : Nat} {O : Obj} {o : AObj} {k : Nat} (h2 : 2 ≤ b) (hb : ι b = none)
    (ho : ORel P W.heap.size (ι.set b ⟨w.heap.size, 0, k⟩) ⟨w.heap.size, 0, k⟩ (w.alloc O) o) :
    HRel P W (ι.set b ⟨w.heap.size, 0, k⟩) (upd h b o) (w.alloc O) := by
  refine hr.put (Env.le_set _ hb) (Env.set_same _ _ _) (fun c hc => Env.set_ne _ _ hc) h2 hr.below.size (by simp) (by simp) (fun c _ hc => alloc_get_lt w O hc) rfl rfl rfl ?_ ?_ ho
  · intro c oc lc hc hoc hlc _ he
    have := hr.inb c lc hlc
    simp at he; omega
  · intro hlt; simp at hlt

/-- A block laid anew in its place. -/
theorem HRel.set (hr : HRel P W ι h w) {b : Nat} {l : Loc} {o o' : AObj} (hb : h b = some o) (hl : ι b = some l) (hro : o.ro = false)
    (hsz : w'.heap.size = w.heap.size) (hkeep : ∀ c, c ≠ l.b → w'.heap[c]? = w.heap[c]?) (hos : w'.os = w.os) (htape : w'.tape = w.tape) (hout : w'.output = w.output)
    (hB : W.heap.size ≤ l.b)
    (hmap : ∀ ces' clock', w'.heap[l.b]? = some (.map ces' clock') → ∃ ces clock, w.heap[l.b]? = some (.map ces clock) ∧ clock ≤ clock' ∧
      (clock' = clock → ∀ ce' ∈ ces'.toList, ∃ ce ∈ ces.toList, ce.born = ce'.born ∧ ce.key = ce'.key))
    (ho : ORel P W.heap.size ι l w' o') : HRel P W ι (upd h b o') w' := by
  have h2 : 2 ≤ b := by
    rcases Nat.lt_or_ge b 2 with hlt | hge
    · exfalso
      have h0 := hr.z0; have h1 := hr.z1
      rcases Nat.lt_or_ge b 1 with h' | h'
      · obtain rfl : b = 0 := by omega
        rw [h0] at hl; cases hl
      · obtain rfl : b = 1 := by omega
        rw [h1] at hl; cases hl
    · exact hge
  exact hr.put (Env.le_refl ι) hl (fun _ _ => rfl) h2 hB (by rw [hsz]; exact hr.inb b l hl) (by omega) (fun c hc _ => hkeep c hc) hos htape hout
    (fun c oc lc hc hoc hlc hx => hr.sep c b oc o lc l hc hoc hb hlc hl hx hro) (fun _ => hmap) ho
end mem
end Go.Proofs.YtjdhldfeflmneaaGreat.AM
