/-
  A value is equal to itself: '==' over the abstract memory, for structs and arrays of numbers.
-/
import Derived.Test.YtcohcmlidmaaoaaGreatM4
set_option linter.unusedSimpArgs false
set_option linter.unusedVariables false
namespace Go.Proofs.YtcohcmlidmaaoaaGreat.AM
section
variable {P : Program}
def rOk (P : Program) : Nat → TypeId → Value → Bool
  | 0, _, _ => false
  | d + 1, t, x => match P.underlying t, x with
    | some (.int _), .int _ _ => true
    | some .bool, .bool _ => true
    | some (.struct fs), .agg xs => !P.stoodInHeld t && fs.toList.all fun f => match pureRun P (part f.type xs f.offset) with
      | some v => rOk P d f.type v
      | none => false
    | some (.array len elem), .agg xs => (match pureRun P (sizeOf elem) with
      | some n => (List.range len).all fun i => match pureRun P (part elem xs (i * n)) with
        | some v => rOk P d elem v
        | none => false
      | none => false)
    | _, _ => false
theorem pr_eqFieldsR {d : Nat} {xs : Array Value} : ∀ (fs : List Field), (∀ f ∈ fs, ∃ v, pureRun P (part f.type xs f.offset) = some v ∧ pureRun P (Op.equalIn d f.type v v) = some true) → pureRun P (Op.eqFields d xs xs fs) = some true
  | [], _ => rfl
  | f :: fs, h => by
    obtain ⟨v, h1, h2⟩ := h f (List.mem_cons_self ..)
    have ih := pr_eqFieldsR fs fun g hg => h g (List.mem_cons_of_mem _ hg)
    simp only [Op.eqFields, pr_bind]
    split
    · simp only [pr_bind, h1, Option.bind_some, h2, Bool.not_true, Bool.false_eq_true, if_false]
      exact ih
    · exact ih
theorem rOk_refl : ∀ (d : Nat) {t : TypeId} {x : Value}, rOk P d t x = true → ∀ d', d ≤ d' → pureRun P (Op.equalIn d' t x x) = some true
  | 0, _, _, h, _, _ => by cases h
  | d + 1, t, x, h, d', hd => by
    obtain ⟨k, rfl⟩ : ∃ k, d' = k + 1 := ⟨d' - 1, by omega⟩
    unfold rOk at h
    split at h
    · rename_i hu
      simp [Op.equalIn, pr_bind, pr_underlying hu, pr_pure]
    · rename_i hu
      simp [Op.equalIn, pr_bind, pr_underlying hu, pr_pure]
    · rename_i fs xs hu
      simp only [Bool.and_eq_true, Bool.not_eq_true', List.all_eq_true] at h
      have hf : P.fieldsOf t = fs := by simp [Program.fieldsOf, hu]
      rw [pr_equalIn_struct (by rw [hf]; exact hu) h.1, hf]
      refine pr_eqFieldsR _ fun f hm => ?_
      have h1 := h.2 f hm
      split at h1
      · rename_i v hv
        exact ⟨v, hv, rOk_refl d h1 k (by omega)⟩
      · cases h1
    · rename_i len elem xs hu
      split at h
      · rename_i n hn
        simp only [List.all_eq_true] at h
        simp only [Op.equalIn, pr_bind, pr_underlying hu, Option.bind_some, hn]
        rw [Std.Legacy.Range.forIn_eq_forIn_range']
        have h' : ∀ i ∈ List.range' ([:len] : Std.Legacy.Range).start ([:len] : Std.Legacy.Range).size ([:len] : Std.Legacy.Range).step, ∃ v, pureRun P (part elem xs (i * n)) = some v ∧ pureRun P (Op.equalIn k elem v v) = some true := by
          intro i hi
          have hi2 : i ∈ List.range len := by
            rw [List.range_eq_range']
            simpa [Std.Legacy.Range.size] using hi
          have h1 := h i hi2
          split at h1
          · rename_i v hv
            exact ⟨v, hv, rOk_refl d h1 k (by omega)⟩
          · cases h1
        generalize List.range' ([:len] : Std.Legacy.Range).start ([:len] : Std.Legacy.Range).size ([:len] : Std.Legacy.Range).step = l at *
        induction l with
        | nil => simp [pr_pure]
        | cons i l ih =>
          obtain ⟨v, h1, h2⟩ := h' i (List.mem_cons_self ..)
          simp only [List.forIn_cons, pr_bind, h1, Option.bind_some, h2, Bool.not_true, Bool.false_eq_true, if_false, pr_pure]
          exact ih fun j hj => h' j (List.mem_cons_of_mem _ hj)
      · cases h
    · cases h
theorem bin_refl {t : TypeId} {xs : Array Value} {d : Nat} {K : Value → Prop} (hg : P.eqGuardType P.depth t = false) (hx : selfV (.agg xs) = true) (hd : d ≤ 10000) (hr : rOk P d t (.agg xs) = true) :
    o_bin P .eql t (.agg xs) (.agg xs) K = K (.bool true) := by
  unfold o_bin o_pure
  have hb : binOp .eql t (.agg xs) (.agg xs) = (do pure (.bool (← Op.equal t (.agg xs) (.agg xs)))) := rfl
  have he : okEq P .eql t (.agg xs) (.agg xs) = true := by simp [okEq, hg]
  rw [hx, he, hb]
  simp only [pr_bind, Op.equal, Op.maxDepth, rOk_refl d hr 10000 hd]
  rfl
theorem bin_reflN {t : TypeId} {xs : Array Value} {d : Nat} {K : Value → Prop} (hg : P.eqGuardType P.depth t = false) (hx : selfV (.agg xs) = true) (hd : d ≤ 10000) (hr : rOk P d t (.agg xs) = true) :
    o_bin P .neq t (.agg xs) (.agg xs) K = K (.bool false) := by
  unfold o_bin o_pure
  have hb : binOp .neq t (.agg xs) (.agg xs) = (do pure (.bool (!(← Op.equal t (.agg xs) (.agg xs))))) := rfl
  have he : okEq P .neq t (.agg xs) (.agg xs) = true := by simp [okEq, hg]
  rw [hx, he, hb]
  simp only [pr_bind, Op.equal, Op.maxDepth, rOk_refl d hr 10000 hd]
  rfl
theorem pr_partA {t : TypeId} {xs : Array Value} {o n : Nat} (h1 : pureRun P (isAgg t) = some true) (h2 : pureRun P (sizeOf t) = some n) : pureRun P (part t xs o) = some (.agg (xs.extract o (o + n))) := by
  simp only [part, pr_bind, h1, Option.bind_some, if_true, h2]
  rfl
theorem rOk_int {d : Nat} {t : TypeId} {k k' : IntKind} {x : Int} (hu : P.underlying t = some (.int k)) : rOk P (d + 1) t (.int k' x) = true := by
  unfold rOk; rw [hu]
theorem rOk_arr {d len : Nat} {t elem : TypeId} {k : IntKind} {xs : Array Value} (hu : P.underlying t = some (.array len elem)) (he : P.underlying elem = some (.int k)) (hs : pureRun P (sizeOf elem) = some 1) (h : ∀ i, i < len → ∃ k' x, xs[i]? = some (.int k' x)) : rOk P (d + 2) t (.agg xs) = true := by
  unfold rOk
  simp only [hu, hs, List.all_eq_true]
  intro i hi
  obtain ⟨k', x, hx⟩ := h i (List.mem_range.1 hi)
  rw [Nat.mul_one, pr_part he rfl hx]
  exact rOk_int he
theorem rOk_struct {d : Nat} {t : TypeId} {xs : Array Value} (hu : P.underlying t = some (.struct (P.fieldsOf t))) (hst : P.stoodInHeld t = false)
    (h : ∀ q ∈ (P.fieldsOf t).toList.map (fun f => (f.type, f.offset)), ∃ v, pureRun P (part q.1 xs q.2) = some v ∧ rOk P d q.1 v = true) : rOk P (d + 1) t (.agg xs) = true := by
  unfold rOk
  simp only [hu, hst, Bool.not_false, Bool.true_and, List.all_eq_true]
  intro f hf
  obtain ⟨v, h1, h2⟩ := h (f.type, f.offset) (List.mem_map.2 ⟨f, hf, rfl⟩)
  simp only at h1 h2
  rw [h1]
  exact h2
end
end Go.Proofs.YtcohcmlidmaaoaaGreat.AM
