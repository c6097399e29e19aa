/-
  '==' of structs over the abstract memory.
-/
import Derived.Test.YtjdhldfeflmneaaGreatAMList
import Derived.Laws.StructEq
set_option linter.unusedSimpArgs false
set_option linter.unusedVariables false
namespace Go.Proofs.YtjdhldfeflmneaaGreat.AM

section
variable {P : Program}
theorem pr_bind {α β : Type} (m : Sem α) (f : α → Sem β) : pureRun P (m >>= f) = (pureRun P m).bind fun a => pureRun P (f a) := by
  induction m with
  | pure a => rfl
  | program k ih => exact ih P
  | _ => rfl
theorem pr_pure {α : Type} (a : α) : pureRun P (pure a) = some a := rfl
theorem pr_underlying {t : TypeId} {d : TypeDesc} (h : P.underlying t = some d) : pureRun P (underlying t) = some d := by
  show (pureRun P (match P.underlying t with | some d => pure d | none => stuck "no such type")) = some d
  rw [h]; rfl
theorem pr_equalIn_struct {d : Nat} {t : TypeId} {xs ys : Array Value} (ht : P.underlying t = some (.struct (P.fieldsOf t))) (hp : P.stoodInHeld t = false) :
    pureRun P (Op.equalIn (d + 1) t (.agg xs) (.agg ys)) = pureRun P (Op.eqFields d xs ys (P.fieldsOf t).toList) := by
  have hprog : pureRun P program = some P := rfl
  simp only [Op.equalIn, pr_bind, pr_underlying ht, Option.bind_some, hprog, hp, Bool.false_eq_true, if_false]
  rw [← Array.forIn_toList]
  generalize (P.fieldsOf t).toList = fs
  clear ht
  induction fs with
  | nil => simp [Op.eqFields, pr_pure]
  | cons f fs ih =>
    simp only [List.forIn_cons, Op.eqFields, pr_bind]
    split
    · simp only [pr_bind]
      cases pureRun P (part f.type xs f.offset) with
      | none => rfl
      | some a =>
        simp only [Option.bind_some]
        cases pureRun P (part f.type ys f.offset) with
        | none => rfl
        | some b =>
          simp only [Option.bind_some]
          cases pureRun P (Op.equalIn d f.type a b) with
          | none => rfl
          | some r =>
            cases r
            · rfl
            · simp only [Option.bind_some, Bool.not_true, Bool.false_eq_true, if_false, pr_pure]
              exact ih
    · simp only [pr_pure, Option.bind_some]
      exact ih
def sEq : Value → Value → Bool
  | .int _ a, .int _ b => a == b
  | .bool a, .bool b => a == b
  | .string a, .string b => a == b
  | _, _ => false
def okPair (P : Program) (xs ys : Array Value) (f : Field) : Bool :=
  (f.name != "_") && (match P.underlying f.type, xs[f.offset]?, ys[f.offset]? with
    | some (.int _), some (.int k _), some (.int k' _) => k == k'
    | some .bool, some (.bool _), some (.bool _) => true
    | some .string, some (.string _), some (.string _) => true
    | _, _, _ => false)
theorem pr_part {t : TypeId} {cs : Array Value} {o : Nat} {v : Value} {d : TypeDesc} (hu : P.underlying t = some d) (hd : (match d with | .int _ | .bool | .string => true | _ => false) = true) (hc : cs[o]? = some v) : pureRun P (part t cs o) = some v := by
  have : pureRun P (isAgg t) = some false := by
    simp only [isAgg, pr_bind, pr_underlying hu, Option.bind_some]
    cases d <;> simp at hd <;> rfl
  simp only [part, pr_bind, this, Option.bind_some, hc]
  rfl
theorem pr_eqFields {d : Nat} {xs ys : Array Value} : ∀ (fs : List Field), fs.all (okPair P xs ys) = true → pureRun P (Op.eqFields (d + 1) xs ys fs) = some (fs.all fun f => sEq (xs.getD f.offset undef) (ys.getD f.offset undef))
  | [], _ => rfl
  | f :: fs, h => by
    simp only [List.all_cons, Bool.and_eq_true] at h
    have ih := pr_eqFields (d := d) fs h.2
    have h1 := h.1
    unfold okPair at h1
    simp only [Bool.and_eq_true, bne_iff_ne, ne_eq] at h1
    obtain ⟨hn, h1⟩ := h1
    simp only [Op.eqFields, if_pos hn, pr_bind, List.all_cons]
    split at h1 <;> try (cases h1)
    all_goals
      rename_i hu hx hy
      rw [pr_part hu rfl hx, pr_part hu rfl hy]
      have gx : ∀ {v}, xs[f.offset]? = some v → xs.getD f.offset undef = v := fun h => by rw [Array.getD_eq_getD_getElem?, h]; rfl
      have gy : ∀ {v}, ys[f.offset]? = some v → ys.getD f.offset undef = v := fun h => by rw [Array.getD_eq_getD_getElem?, h]; rfl
      rw [gx hx, gy hy]
      simp only [Option.bind_some, Op.equalIn, pr_bind, pr_underlying hu]
    · rename_i k a k' b
      have hk := eq_of_beq h1
      rw [show sEq (.int k a) (.int k' b) = (a == b) from rfl]
      simp only [hk, if_true, pr_pure, Option.bind_some]
      cases a == b
      · rfl
      · exact ih
    · rename_i a b
      rw [show sEq (.bool a) (.bool b) = (a == b) from rfl]
      simp only [pr_pure, Option.bind_some]
      cases a == b
      · rfl
      · exact ih
    · rename_i a b
      rw [show sEq (.string a) (.string b) = (a == b) from rfl]
      simp only [pr_pure, Option.bind_some]
      cases a == b
      · rfl
      · exact ih
theorem bin_neqS {t : TypeId} {xs ys : Array Value} {r : Bool} {K : Value → Prop} (ht : P.underlying t = some (.struct (P.fieldsOf t))) (hp : P.stoodInHeld t = false) (hg : P.eqGuardType P.depth t = false)
    (hx : selfV (.agg xs) = true) (hy : selfV (.agg ys) = true) (hok : (P.fieldsOf t).toList.all (okPair P xs ys) = true) (hr : ((P.fieldsOf t).toList.all fun f => sEq (xs.getD f.offset undef) (ys.getD f.offset undef)) = r) :
    o_bin P .neq t (.agg xs) (.agg ys) K = K (.bool (!r)) := by
  unfold o_bin o_pure
  have hb : binOp .neq t (.agg xs) (.agg ys) = (do pure (.bool (!(← Op.equal t (.agg xs) (.agg ys))))) := rfl
  have he : okEq P .neq t (.agg xs) (.agg ys) = true := by simp [okEq, hg]
  rw [hx, hy, he, hb]
  simp only [pr_bind, Op.equal, Op.maxDepth]
  rw [show (10000 : Nat) = 9998 + 1 + 1 from rfl, pr_equalIn_struct ht hp, pr_eqFields _ hok, hr]
  rfl
theorem bin_eqlS {t : TypeId} {xs ys : Array Value} {r : Bool} {K : Value → Prop} (ht : P.underlying t = some (.struct (P.fieldsOf t))) (hp : P.stoodInHeld t = false) (hg : P.eqGuardType P.depth t = false)
    (hx : selfV (.agg xs) = true) (hy : selfV (.agg ys) = true) (hok : (P.fieldsOf t).toList.all (okPair P xs ys) = true) (hr : ((P.fieldsOf t).toList.all fun f => sEq (xs.getD f.offset undef) (ys.getD f.offset undef)) = r) :
    o_bin P .eql t (.agg xs) (.agg ys) K = K (.bool r) := by
  unfold o_bin o_pure
  have hb : binOp .eql t (.agg xs) (.agg ys) = (do pure (.bool (← Op.equal t (.agg xs) (.agg ys)))) := rfl
  have he : okEq P .eql t (.agg xs) (.agg ys) = true := by simp [okEq, hg]
  rw [hx, hy, he, hb]
  simp only [pr_bind, Op.equal, Op.maxDepth]
  rw [show (10000 : Nat) = 9998 + 1 + 1 from rfl, pr_equalIn_struct ht hp, pr_eqFields _ hok, hr]
  rfl
end
end Go.Proofs.YtjdhldfeflmneaaGreat.AM
