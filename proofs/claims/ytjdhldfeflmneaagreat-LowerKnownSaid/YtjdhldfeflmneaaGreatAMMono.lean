/-
  The predicate transformer over the abstract memory is monotone; a loop over fewer variables stands for the loop over all temporaries.
-/
import Derived.Test.YtjdhldfeflmneaaGreatAMSpec
set_option linter.unusedSimpArgs false
set_option linter.unusedVariables false
namespace Go.Proofs.YtjdhldfeflmneaaGreat.AM

section
variable {P : Program}

theorem o_new_mono {cs : List Value} {E : TypeId} {m : Own} {h : H} {K K' : Nat → H → Prop} (hk : ∀ b h, K b h → K' b h) (ho : o_new cs E m h K) : o_new cs E m h K' := fun b h1 h2 => hk _ _ (ho b h1 h2)
theorem o_newObj_mono {o : AObj} {h : H} {K K' : Nat → H → Prop} (hk : ∀ b h, K b h → K' b h) (ho : o_newObj o h K) : o_newObj o h K' := fun b h1 h2 => hk _ _ (ho b h1 h2)
theorem o_pure_mono {r : Option Value} {K K' : Value → Prop} (hk : ∀ v, K v → K' v) (ho : o_pure r K) : o_pure r K' := by
  unfold o_pure at *
  cases r with
  | none => exact ho
  | some v => cases hs : selfV v <;> simp only [hs, cond_true, cond_false] at ho ⊢; exact hk _ ho
theorem YSpec.mono {r : Nat} {args : List Value} {h : H} {Q Q' : Value → H → Prop} (hs : YSpec P r args h Q) (hq : ∀ v h, Q v h → Q' v h) : YSpec P r args h Q' := by
  intro W ι w cargs l hr hl ha
  obtain ⟨L, h1, h2, h3⟩ := hs W ι w cargs l hr hl ha
  exact ⟨L, h1, h2, h3.mono fun _ _ ⟨v, cv, ι', h', h1, h2, h3, h4, h5⟩ => ⟨v, cv, ι', h', h1, h2, h3, h4, hq _ _ h5⟩⟩

theorem o_append_mono {e size bytes : Nat} {s x : Value} {h : H} {K K' : Value → H → Prop} (hk : ∀ v h, K v h → K' v h) (ho : o_append e size bytes s x h K) : o_append e size bytes s x h K' := by
  unfold o_append at *
  revert ho
  repeat' split
  all_goals intro ho
  all_goals first
    | exact ho
    | exact hk _ _ ho
    | exact ⟨ho.1, ho.2.1, ho.2.2.1, hk _ _ ho.2.2.2⟩
    | exact ⟨ho.1, hk _ _ ho.2⟩
    | exact ⟨ho.1, ho.2.1, ho.2.2.1, ho.2.2.2.1, ho.2.2.2.2.1, o_new_mono (fun _ _ h => hk _ _ h) ho.2.2.2.2.2⟩
    | exact ⟨ho.1, ho.2.1, ho.2.2.1, ho.2.2.2.1, ho.2.2.2.2.1, ho.2.2.2.2.2.1, ho.2.2.2.2.2.2.1, ho.2.2.2.2.2.2.2.1, fun b h1 h2 => hk _ _ (ho.2.2.2.2.2.2.2.2 b h1 h2)⟩
    | exact ⟨ho.1, ho.2.1, ho.2.2.1, ho.2.2.2.1, ho.2.2.2.2⟩

theorem o_bin_mono {op : BinOp} {xt : TypeId} {x y : Value} {K K' : Value → Prop} (hk : ∀ v, K v → K' v) (ho : o_bin P op xt x y K) : o_bin P op xt x y K' := by
  unfold o_bin at *
  cases hb : (selfV x && selfV y && okEq P op xt x y) <;> simp only [hb, cond_true, cond_false] at ho ⊢
  · revert ho
    split <;> intro ho <;> first | exact hk _ ho | exact ho
  · exact o_pure_mono hk ho

theorem aCall_mono {c : Call} {ρ : Operand → Value} {h : H} {K K' : Value → H → Prop} (hk : ∀ v h, K v h → K' v h) (ho : aCall P c ρ h K) : aCall P c ρ h K' := by
  have hspec : ∀ {f args}, Spec P f args h K → Spec P f args h K' := fun hs => hs.mono hk
  have hy : ∀ {r args}, YSpec P r args h K → YSpec P r args h K' := fun hs => hs.mono hk
  unfold aCall at *
  revert ho
  split
  · repeat' split
    · unfold o_lenStr; split <;> intro ho <;> first | exact hk _ _ ho | exact ho
    · unfold o_lenSl; split <;> intro ho <;> first | exact hk _ _ ho | exact ho
    · unfold o_lenMap
      repeat' split
      all_goals intro ho
      all_goals first | exact hk _ _ ho | exact ho
    · intro ho; exact hk _ _ ho
    · intro ho; exact ho
  · repeat' split
    all_goals first
      | (intro ho; exact ho)
      | (rename_i i z _ _
         cases hb : (z.cells.size == i.size)
         · intro ho; exact ho
         · intro ho; exact o_append_mono hk ho)
  · unfold o_copy
    repeat' split
    all_goals intro ho
    all_goals first
      | exact ho
      | exact hk _ _ ho
      | exact ⟨ho.1, ho.2.1, ho.2.2.1, hk _ _ ho.2.2.2⟩
  · unfold o_delete
    repeat' split
    all_goals intro ho
    all_goals first
      | exact ho
      | exact ⟨ho.1, hk _ _ ho.2⟩
      | exact ⟨ho.1, ho.2.1, hk _ _ ho.2.2⟩
  · unfold o_minmax
    cases (selfV _ && selfV _) <;> simp only [cond_true, cond_false] <;> intro ho
    · exact ho
    · exact o_pure_mono (fun v => hk v h) ho
  · unfold o_minmax
    cases (selfV _ && selfV _) <;> simp only [cond_true, cond_false] <;> intro ho
    · exact ho
    · exact o_pure_mono (fun v => hk v h) ho
  · rename_i f _
    cases hasBody P f <;> simp only [cond_true, cond_false] <;> intro ho
    · exact ho
    · exact ⟨ho.1, hspec ho.2⟩
  · unfold o_dyn
    split <;> intro ho
    · exact ⟨ho.1, ho.2.1, hspec ho.2.2⟩
    · exact ⟨ho.1, ho.2.1, ho.2.2.1, hy ho.2.2.2⟩
    · exact ho
  · intro ho; exact ho

set_option maxHeartbeats 1000000 in
theorem aop_mono {op : Op} {ρ : Operand → Value} {h : H} {K K' : Value → H → Prop} (hk : ∀ v h, K v h → K' v h) (ho : aop P op ρ h K) : aop P op ρ h K' := by
  unfold aop at *
  revert ho
  split
  · exact hk _ _
  · exact hk _ _
  · unfold o_pick; split <;> first | exact hk _ _ | exact id
  · split <;> first | exact fun ho => o_new_mono (fun _ _ h => hk _ _ h) ho | exact id
  · exact fun ho => ⟨ho.1, o_new_mono (fun _ _ h => hk _ _ h) ho.2⟩
  · unfold o_build
    rename_i t ps
    cases (List.map (fun p : Nat × Operand => (p.1, ρ p.2)) ps.toList).all (fun p => boxV p.2) <;> simp only [cond_true, cond_false]
    · exact id
    · split <;> first | exact hk _ _ | exact id
  · unfold o_buildSlice; split <;> first | exact fun ho => o_new_mono (fun _ _ h => hk _ _ h) ho | exact id
  · split
    · unfold o_load
      split
      · rename_i ag n _ _ _ _ _
        cases ag <;> simp only [cond_true, cond_false] <;> split <;> first | exact hk _ _ | exact id
      · exact id
    · exact id
  · split
    · unfold o_store
      repeat' split
      all_goals intro ho
      all_goals first | exact ho | exact ⟨ho.1, ho.2.1, ho.2.2.1, ho.2.2.2.1, hk _ _ ho.2.2.2.2⟩
    · exact id
  · unfold o_nilCheck; split <;> first | exact hk _ _ | exact id
  · exact o_bin_mono fun v => hk v h
  · rename_i op xt x
    unfold o_un
    cases selfV (ρ x) <;> simp only [cond_true, cond_false]
    · exact id
    · exact o_pure_mono fun v => hk v h
  · split
    · unfold o_conv; split <;> first | exact hk _ _ | exact id
    · unfold o_convStr; split <;> first | exact hk _ _ | exact id
    · split
      · unfold o_bytesToString
        repeat' split
        all_goals first | exact hk _ _ | exact id
      · exact id
    · split
      · rename_i i _ _
        cases Nat.beq i.size 1 <;> simp only [cond_true, cond_false]
        · exact id
        · unfold o_stringToBytes; split <;> first | exact fun ho => o_new_mono (fun _ _ h => hk _ _ h) ho | exact id
      · exact id
    · split
      · generalize Nat.beq _ _ = q
        cases q <;> simp only [cond_true, cond_false]
        · exact id
        · unfold o_mark
          repeat' split
          all_goals first | exact id | exact fun ho => ⟨ho.1, hk _ _ ho.2⟩
      · exact id
    · exact id
  · split <;> first | exact id | exact fun ho => ⟨ho.1, hk _ _ ho.2⟩
  · exact fun ho => ⟨ho.1, ho.2.1, hk _ _ ho.2.2⟩
  · repeat' split
    all_goals first | exact id | exact fun ho => o_newObj_mono (fun _ _ h => hk _ _ h) ho
  · repeat' split
    all_goals first
      | exact id
      | (unfold o_makeSlice
         split
         · exact fun ho => ⟨ho.1, ho.2.1, ho.2.2.1, ho.2.2.2.1, ho.2.2.2.2.1, ho.2.2.2.2.2.1, o_new_mono (fun _ _ h => hk _ _ h) ho.2.2.2.2.2.2⟩
         · exact id)
  · split
    · split
      · unfold o_sliceArr
        repeat' split
        all_goals first
          | exact id
          | (rintro ⟨h1, l, u, h2, h3, h4, h5, h6⟩
             refine ⟨h1, l, u, h2, h3, h4, h5, ?_⟩
             revert h6
             split <;> exact hk _ _)
      · exact id
    · split
      · unfold o_slice
        split
        · rintro ⟨l, u, h2, h3, h4, h5, h6⟩
          refine ⟨l, u, h2, h3, h4, h5, ?_⟩
          revert h6
          repeat' split
          all_goals exact hk _ _
        · exact fun ho => ⟨ho.1, ho.2.1, hk _ _ ho.2.2⟩
        · exact fun ho => ⟨ho.1, ho.2.1, hk _ _ ho.2.2⟩
        · exact fun ho => ⟨ho.1, ho.2.1, hk _ _ ho.2.2⟩
        · exact id
      · exact id
    · split
      · unfold o_sliceStr
        split
        · rintro ⟨l, u, h2, h3, h4, h5, h6⟩; exact ⟨l, u, h2, h3, h4, h5, hk _ _ h6⟩
        · exact id
      · exact id
    · exact id
  · split
    · rename_i off ft _
      cases Nat.beq (szOf P ft) 0 <;> simp only [cond_true, cond_false]
      · unfold o_fieldAddr; split <;> first | exact hk _ _ | exact id
      · exact id
    · exact id
  · unfold o_field
    repeat' split
    all_goals first | exact hk _ _ | exact id
  · unfold o_indexAddr
    repeat' split
    all_goals first | exact id | exact fun ho => ⟨ho.1, ho.2.1, hk _ _ ho.2.2⟩
  · unfold o_index
    repeat' split
    all_goals first
      | exact id
      | (rintro ⟨h1, h2, h3, h4⟩
         refine ⟨h1, h2, h3, ?_⟩
         revert h4
         split <;> first | exact hk _ _ | exact id)
      | (rintro ⟨h1, h2, h3⟩
         refine ⟨h1, h2, ?_⟩
         revert h3
         split <;> first | exact hk _ _ | exact id)
      | exact fun ho => ⟨ho.1, ho.2.1, ho.2.2.1, hk _ _ ho.2.2.2⟩
      | exact fun ho => ⟨ho.1, ho.2.1, hk _ _ ho.2.2⟩
  · unfold o_lookup
    repeat' split
    all_goals first
      | exact id
      | exact fun ho => ⟨ho.1, hk _ _ ho.2⟩
      | exact fun ho => ⟨ho.1, ho.2.1, hk _ _ ho.2.2⟩
  · unfold o_mapUpdate
    repeat' split
    all_goals first
      | exact id
      | exact fun ho => ⟨ho.1, ho.2.1, ho.2.2.1, hk _ _ ho.2.2.2⟩
  · unfold o_mapUpdate
    repeat' split
    all_goals first
      | exact id
      | exact fun ho => ⟨ho.1, ho.2.1, ho.2.2.1, hk _ _ ho.2.2.2⟩
  · unfold o_range
    repeat' split
    all_goals first | exact id | exact fun ho => o_newObj_mono (fun _ _ h => hk _ _ h) ho
  · unfold o_next
    repeat' split
    all_goals first
      | exact id
      | exact hk _ _
      | exact fun ho => ⟨ho.1, fun e he hl => hk _ _ (ho.2.1 e he hl), fun hh => hk _ _ (ho.2.2 hh)⟩
  · unfold o_entry
    repeat' split
    all_goals first
      | exact id
      | exact fun ho => ho.2.elim
      | exact fun ho => ⟨ho.1, hk _ _ ho.2⟩
  · unfold o_extract
    repeat' split
    all_goals first | exact id | exact hk _ _
  · exact aCall_mono hk
  · exact id

theorem aStep_mono {ops : Array Oper} {i : Nat} {K K' : T → H → Prop} {t : T} {h : H} (hk : ∀ t h, K t h → K' t h) (ho : aStep P ops i K t h) : aStep P ops i K' t h := by
  unfold aStep at *
  revert ho
  split
  · exact hk _ _
  · split
    · exact aop_mono fun _ _ => hk _ _
    · unfold o_guard
      split
      · rename_i b _
        generalize (b == _) = q
        cases q <;> simp only [cond_true, cond_false]
        · exact hk _ _
        · exact aop_mono fun _ _ => hk _ _
      · exact hk _ _
theorem aOps_mono {ops : Array Oper} {K K' : T → H → Prop} (hk : ∀ t h, K t h → K' t h) : ∀ (is : List Nat) {t : T} {h : H}, aOps P ops is K t h → aOps P ops is K' t h
  | [], _, _, ho => hk _ _ ho
  | _ :: is, _, _, ho => aStep_mono (fun _ _ h => aOps_mono hk is h) ho
theorem aAny_mono {ops : Array Oper} {K K' : T → H → Prop} (hk : ∀ t h, K t h → K' t h) : ∀ (n : Nat) {l : Array Bool} {t : T} {h : H}, aAny P ops K n l t h → aAny P ops K' n l t h
  | 0, _, _, _, ho => ⟨ho.1, hk _ _ ho.2⟩
  | n + 1, _, _, _, ho => ⟨fun he => hk _ _ (ho.1 he), fun i hi => aStep_mono (fun _ _ h => aAny_mono hk n h) (ho.2 i hi)⟩

theorem sloop_mono {S : Type} {b b' : S → H → (S → H → Prop) → Prop} (hb : ∀ s h K, b s h K → b' s h K) {s : S} {h : H} (ho : sloop b s h) : sloop b' s h := by
  obtain ⟨I, hI, hr⟩ := ho
  exact ⟨I, hI, fun n s h hi => hb _ _ _ (hr n s h hi)⟩
/-- A loop over fewer variables stands for one over more. -/
theorem sloop_of {S S' : Type} (π : S' → S) {b : S → H → (S → H → Prop) → Prop} {b' : S' → H → (S' → H → Prop) → Prop} (hb : ∀ t h K, b (π t) h K → b' t h fun t h => K (π t) h) {t : S'} {h : H} (ho : sloop b (π t) h) : sloop b' t h := by
  obtain ⟨I, hI, hr⟩ := ho
  exact ⟨fun n t h => I n (π t) h, hI, fun n t h hi => hb _ _ _ (hr n (π t) h hi)⟩

theorem athen_mono {K K' : T → H → Prop} {Q Q' : Exit → T → H → Prop} (hk : ∀ t h, K t h → K' t h) (hq : ∀ e t h, Q e t h → Q' e t h) (e : Exit) (t : T) (h : H) (ho : athen K Q e t h) : athen K' Q' e t h := by
  cases e <;> first | exact hk _ _ ho | exact hq _ _ _ ho
theorem awp_mono {N : Nat} : ∀ (c : Code) {Q Q' : Exit → T → H → Prop} {t : T} {h : H}, (∀ e t h, Q e t h → Q' e t h) → awp P N c Q t h → awp P N c Q' t h := by
  intro c
  induction c with
  | skip => intro Q Q' t h hq ho; exact hq _ _ _ ho
  | label l => intro Q Q' t h hq ho; exact hq _ _ _ ho
  | exit id => intro Q Q' t h hq ho; exact hq _ _ _ ho
  | ret => intro Q Q' t h hq ho; exact hq _ _ _ ho
  | goto l => intro Q Q' t h hq ho; exact ho
  | refuse s => intro Q Q' t h hq ho; exact ho
  | scope c ih => intro Q Q' t h hq ho; exact ho
  | region id ops draw =>
    intro Q Q' t h hq ho
    cases draw with
    | false => exact aOps_mono (hq .normal) _ ho
    | true => exact aAny_mono (hq .normal) _ ho
  | seq x y ihx ihy => intro Q Q' t h hq ho; exact ihx (athen_mono (fun _ _ h => ihy hq h) hq) ho
  | cond c x y ihx ihy =>
    intro Q Q' t h hq ho
    have ho' : o_if (aev t c) (awp P N x Q t h) (awp P N y Q t h) := ho
    show o_if (aev t c) (awp P N x Q' t h) (awp P N y Q' t h)
    unfold o_if at *
    revert ho'
    split
    · rename_i b _
      cases b
      · exact ihy hq
      · exact ihx hq
    · exact id
  | block id c ih =>
    intro Q Q' t h hq ho
    refine ih (fun e t h hx => ?_) ho
    cases e with
    | exit j =>
      simp only [ablock] at *
      cases hj : Nat.beq j id <;> simp only [hj, cond_true, cond_false] at hx ⊢ <;> exact hq _ _ _ hx
    | _ => exact hq _ _ _ hx
  | loop c ih => intro Q Q' t h hq ho; exact sloop_mono (fun t h K hb => ih (athen_mono (fun _ _ h => h) hq) hb) ho
  | rangeFunc g ps assign body =>
    intro Q Q' t h hq ho
    simp only [awp] at *
    intro l d h1 h2 h3 h4 h5
    have := ho l d h1 h2 h3 h4 h5
    unfold o_rangeCall at *
    revert this
    split
    · refine fun hh => ⟨hh.1, hh.2.mono fun v h' => ?_⟩
      split <;> first | exact hq _ _ _ | exact id
    · exact id

/-! ### Pieces of code -/
def seqL : Code → Code | .seq a _ => a | c => c
def seqR : Code → Code | .seq _ b => b | c => c
def blkC : Code → Code | .block _ c => c | c => c
def blkId : Code → Nat | .block i _ => i | _ => 0
def lopC : Code → Code | .loop c => c | c => c
def cndX : Code → Code | .cond _ x _ => x | c => c
def cndY : Code → Code | .cond _ _ y => y | c => c
def cndV : Code → Operand | .cond c _ _ => c | _ => .const .nilIface
def isSeq : Code → Bool | .seq _ _ => true | _ => false
def isBlk : Code → Bool | .block _ _ => true | _ => false
def isLop : Code → Bool | .loop _ => true | _ => false
def isCnd : Code → Bool | .cond _ _ _ => true | _ => false
/-- A function's body. -/
def bodyOf (b : Option Code) : Code := b.getD .skip
def mkQ (kn kr : T → H → Prop) (ke : Nat → T → H → Prop) : Exit → T → H → Prop
  | .normal => kn
  | .ret => kr
  | .exit i => ke i
  | _ => fun _ _ => False
def ke0 : Nat → T → H → Prop := fun _ _ _ => False
def keAdd (id : Nat) (k : T → H → Prop) (ke : Nat → T → H → Prop) : Nat → T → H → Prop := fun i => bif Nat.beq i id then k else ke i
/-- Some steps of a row of statements, and what is asked behind them. -/
def awpTo (P : Program) (N : Nat) : Nat → Code → (T → H → Prop) → (Exit → T → H → Prop) → T → H → Prop
  | 0, _, K, _ => K
  | n + 1, c, K, Q => awp P N (seqL c) (athen (awpTo P N n (seqR c) K Q) Q)
def isRow : Nat → Code → Bool
  | 0, _ => true
  | n + 1, c => isSeq c && isRow n (seqR c)
def rest : Nat → Code → Code
  | 0, c => c
  | n + 1, c => rest n (seqR c)
/-- 'awp', wrapped: so that nothing unfolds it unasked. -/
structure Wp (P : Program) (N : Nat) (c : Code) (Q : Exit → T → H → Prop) (t : T) (h : H) : Prop where
  ok : awp P N c Q t h
theorem Wp.weaken {P : Program} {N : Nat} {c : Code} {kn kn' kr : T → H → Prop} {ke : Nat → T → H → Prop} {t : T} {h : H} (hw : Wp P N c (mkQ kn kr ke) t h) (hk : ∀ t h, kn t h → kn' t h) : Wp P N c (mkQ kn' kr ke) t h :=
  ⟨awp_mono c (fun e t h he => by cases e <;> first | exact hk _ _ he | exact he) hw.ok⟩
theorem wpEq {N : Nat} {Q : Exit → T → H → Prop} {c : Code} {t : T} {h : H} {A : Prop} (h0 : A) (e : A = awp P N c Q t h) : Wp P N c Q t h := ⟨e ▸ h0⟩
theorem awpTo_ok0 {N : Nat} {Q : Exit → T → H → Prop} {K : T → H → Prop} : ∀ (n : Nat) {c : Code} {t : T} {h : H}, isRow n c = true → (∀ t h, K t h → Wp P N (rest n c) Q t h) → awpTo P N n c K Q t h → awp P N c Q t h
  | 0, _, _, _, _, hk, ho => (hk _ _ ho).ok
  | n + 1, c, t, h, hi, hk, ho => by
    simp only [isRow, Bool.and_eq_true] at hi
    cases c <;> simp only [isSeq, Bool.false_eq_true, false_and] at hi
    rename_i a b
    exact awp_mono a (athen_mono (fun t h h2 => awpTo_ok0 n hi.2 hk h2) fun _ _ _ h => h) ho
theorem awpTo_ok {N : Nat} {Q : Exit → T → H → Prop} {K : T → H → Prop} (n : Nat) {c : Code} {t : T} {h : H} {A : Prop} (h0 : A) (hi : isRow n c = true) (hk : ∀ t h, K t h → Wp P N (rest n c) Q t h) (e : A = awpTo P N n c K Q t h) : Wp P N c Q t h :=
  ⟨awpTo_ok0 n hi hk (e ▸ h0)⟩
theorem seq_ok {N : Nat} {kn kn' kr : T → H → Prop} {ke : Nat → T → H → Prop} {c : Code} {t : T} {h : H} (hi : isSeq c = true) (hy : ∀ t h, kn' t h → Wp P N (seqR c) (mkQ kn kr ke) t h) (hx : Wp P N (seqL c) (mkQ kn' kr ke) t h) : Wp P N c (mkQ kn kr ke) t h := by
  cases c <;> simp only [isSeq, Bool.false_eq_true] at hi
  rename_i a b
  refine ⟨awp_mono a (fun e t h he => ?_) hx.ok⟩
  cases e <;> first | exact (hy _ _ he).ok | exact he
theorem block_ok {N : Nat} {kn kr : T → H → Prop} {ke : Nat → T → H → Prop} {c : Code} {t : T} {h : H} (k : Nat) (hi : isBlk c = true) (hid : blkId c = k) (hx : Wp P N (blkC c) (mkQ kn kr (keAdd k kn ke)) t h) : Wp P N c (mkQ kn kr ke) t h := by
  subst hid
  cases c <;> simp only [isBlk, Bool.false_eq_true] at hi
  rename_i id b
  refine ⟨awp_mono b (fun e t h he => ?_) hx.ok⟩
  cases e with
  | exit j =>
    simp only [mkQ, keAdd, blkId] at he
    simp only [ablock]
    cases hj : Nat.beq j id <;> simp only [hj, cond_true, cond_false] at he ⊢ <;> exact he
  | _ => exact he
theorem loop_ok {N : Nat} {S : Type} (π : T → S) {kn kr : T → H → Prop} {ke : Nat → T → H → Prop} {c : Code} {b : S → H → (S → H → Prop) → Prop} {t : T} {h : H} (hi : isLop c = true)
    (hb : ∀ t h K, b (π t) h K → Wp P N (lopC c) (mkQ (fun t h => K (π t) h) kr ke) t h) (hx : sloop b (π t) h) : Wp P N c (mkQ kn kr ke) t h := by
  cases c <;> simp only [isLop, Bool.false_eq_true] at hi
  rename_i b
  refine ⟨sloop_of π (fun t h K hk => ?_) hx⟩
  refine awp_mono b (fun e t h he => ?_) (hb t h K hk).ok
  cases e <;> exact he
theorem cond_ok {N : Nat} {kn kr : T → H → Prop} {ke : Nat → T → H → Prop} {c : Code} {t : T} {h : H} {X Y : Prop} {A : Prop} (h0 : A) (hi : isCnd c = true) (hX : X → Wp P N (cndX c) (mkQ kn kr ke) t h) (hY : Y → Wp P N (cndY c) (mkQ kn kr ke) t h) (hx : A = o_if (aev t (cndV c)) X Y) : Wp P N c (mkQ kn kr ke) t h := by
  cases c <;> simp only [isCnd, Bool.false_eq_true] at hi
  rename_i v x y
  refine ⟨?_⟩
  show o_if (aev t v) (awp P N x (mkQ kn kr ke) t h) (awp P N y (mkQ kn kr ke) t h)
  have hx' : o_if (aev t v) X Y := hx ▸ h0
  unfold o_if at *
  revert hx'
  split
  · rename_i b _
    cases b
    · exact fun h => (hY h).ok
    · exact fun h => (hX h).ok
  · exact id
theorem spec_wp (hm : P.follows .mixedOrders = true) {f : FuncId} {fn : Func} {c : Code} {rs : List Nat} {N : Nat} {args : List Value} {h : H} {Q : Value → H → Prop} {Q1 : Exit → T → H → Prop} (hf : P.funcs[f]? = some fn) (hb : fn.body = some c)
    (hrs : fn.results = (rs.map ResultVar.tmp).toArray) (hn : fn.ntmps = N) (hok : okCode N true c = true) (hrN : rs.all (fun r => Nat.blt r N) = true) (hlen : args.length ≤ N) (hk : Wp P N c Q1 (tinit args) h) (he : Q1 = mkQ (retV rs Q) (retV rs Q) ke0) : Spec P f args h Q := by
  subst he
  exact spec_plain hm hf hb hrs hn hok hrN hlen (awp_mono c (fun e t h he => by cases e <;> exact he) hk.ok)
end
end Go.Proofs.YtjdhldfeflmneaaGreat.AM
