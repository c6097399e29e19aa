/-
  What fold knows of temps; fold.Make.
-/
import Derived.Test.YtpdleknbcgpemaaU9
set_option linter.unusedSimpArgs false
set_option linter.unusedVariables false
namespace Go.Proofs.Ytpdleknbcgpemaa
open AM

abbrev KL := List (Int × Int)
def encK (ps : KL) : List (Value × Value) := ps.map fun p => (.int .i64 p.1, .int .u32 p.2)
def kget (ps : KL) (k : Int) : Option Int := match ps with | [] => none | p :: r => if k = p.1 then some p.2 else kget r k
def kset (ps : KL) (k v : Int) : KL := match ps with | [] => [(k, v)] | p :: r => if k = p.1 then (k, v) :: r else p :: kset r k v
def kdel (ps : KL) (k : Int) : KL := match ps with | [] => [] | p :: r => if k = p.1 then r else p :: kdel r k
theorem keyEq_int {a b : Int} : keyEq (.int .i64 a) (.int .i64 b) = decide (a = b) := by
  simp [keyEq]; rfl
theorem mfind_enc : ∀ (ps : KL) (k : Int), mfind (encK ps) (.int .i64 k) = (kget ps k).map fun v => .int .u32 v
  | [], _ => rfl
  | p :: r, k => by
    show (bif keyEq (.int .i64 k) (.int .i64 p.1) then some (.int .u32 p.2) else mfind (encK r) (.int .i64 k)) = _
    rw [keyEq_int, mfind_enc r k, kget]
    by_cases h : k = p.1 <;> simp [h]
theorem mset_enc : ∀ (ps : KL) (k v : Int), mset (encK ps) (.int .i64 k) (.int .u32 v) = encK (kset ps k v)
  | [], _, _ => rfl
  | p :: r, k, v => by
    show (bif keyEq (.int .i64 k) (.int .i64 p.1) then (Value.int .i64 k, Value.int .u32 v) :: encK r else (.int .i64 p.1, .int .u32 p.2) :: mset (encK r) (.int .i64 k) (.int .u32 v)) = _
    rw [keyEq_int, mset_enc r k v, kset]
    by_cases h : k = p.1 <;> simp [h, encK]
theorem mdel_enc : ∀ (ps : KL) (k : Int), mdel (encK ps) (.int .i64 k) = encK (kdel ps k)
  | [], _ => rfl
  | p :: r, k => by
    show (bif keyEq (.int .i64 k) (.int .i64 p.1) then encK r else (.int .i64 p.1, .int .u32 p.2) :: mdel (encK r) (.int .i64 k)) = _
    rw [keyEq_int, mdel_enc r k, kdel]
    by_cases h : k = p.1 <;> simp [h, encK]
def kok (ps : KL) : Prop := ps.Pairwise fun a b => a.1 ≠ b.1
theorem kget_none {k : Int} : ∀ {ps : KL}, (∀ p ∈ ps, p.1 ≠ k) → kget ps k = none
  | [], _ => rfl
  | p :: r, h => by
    rw [kget, if_neg (fun he => h p (List.mem_cons_self ..) he.symm)]
    exact kget_none fun q hq => h q (List.mem_cons_of_mem _ hq)
theorem kset_mem {k v : Int} : ∀ {ps : KL} {q : Int × Int}, q ∈ kset ps k v → q = (k, v) ∨ q ∈ ps
  | [], q, h => by simp [kset] at h; exact .inl h
  | p :: r, q, h => by
    rw [kset] at h
    split at h
    · rcases List.mem_cons.1 h with rfl | h
      · exact .inl rfl
      · exact .inr (List.mem_cons_of_mem _ h)
    · rcases List.mem_cons.1 h with rfl | h
      · exact .inr (List.mem_cons_self ..)
      · rcases kset_mem h with h | h
        · exact .inl h
        · exact .inr (List.mem_cons_of_mem _ h)
theorem kdel_mem {k : Int} : ∀ {ps : KL} {q : Int × Int}, q ∈ kdel ps k → q ∈ ps
  | p :: r, q, h => by
    rw [kdel] at h
    split at h
    · exact List.mem_cons_of_mem _ h
    · rcases List.mem_cons.1 h with rfl | h
      · exact List.mem_cons_self ..
      · exact List.mem_cons_of_mem _ (kdel_mem h)
theorem kset_ok {k v : Int} : ∀ {ps : KL}, kok ps → kok (kset ps k v)
  | [], _ => by simp [kset, kok]
  | p :: r, h => by
    have h' := List.pairwise_cons.1 h
    rw [kset]
    split
    · rename_i he
      exact List.pairwise_cons.2 ⟨fun q hq => by rw [he]; exact h'.1 q hq, h'.2⟩
    · rename_i he
      refine List.pairwise_cons.2 ⟨fun q hq => ?_, kset_ok h'.2⟩
      rcases kset_mem hq with rfl | hq
      · exact fun e => he e.symm
      · exact h'.1 q hq
theorem kdel_ok {k : Int} : ∀ {ps : KL}, kok ps → kok (kdel ps k)
  | [], h => h
  | p :: r, h => by
    have h' := List.pairwise_cons.1 h
    rw [kdel]
    split
    · exact h'.2
    · exact List.pairwise_cons.2 ⟨fun q hq => h'.1 q (kdel_mem hq), kdel_ok h'.2⟩
theorem kget_set {k v t : Int} : ∀ {ps : KL}, kget (kset ps k v) t = if t = k then some v else kget ps t
  | [] => by simp [kset, kget]
  | p :: r => by
    rw [kset]
    split
    · rename_i he
      rw [kget, kget]
      by_cases h : t = k
      · simp [h]
      · have : ¬ t = p.1 := fun e => h (e.trans he.symm)
        simp [h, this]
    · rename_i he
      rw [kget, kget, kget_set (ps := r)]
      by_cases h : t = k
      · subst h; simp [he]
      · simp [h]
theorem kget_del {k t : Int} : ∀ {ps : KL}, kok ps → kget (kdel ps k) t = if t = k then none else kget ps t
  | [], _ => by simp [kdel, kget]
  | p :: r, h => by
    have h' := List.pairwise_cons.1 h
    rw [kdel]
    split
    · rename_i he
      by_cases ht : t = k
      · subst ht
        rw [if_pos rfl]
        exact kget_none fun q hq e => h'.1 q hq (he.symm.trans e.symm)
      · rw [if_neg ht, kget, if_neg (fun e => ht (e.trans he.symm))]
    · rename_i he
      rw [kget, kget, kget_del h'.2]
      by_cases ht : t = k
      · subst ht; simp [he]
      · simp [ht]

def bothK (ps : KL) (n : Nd) : Int × Int × Bool := ((kget ps n.a).getD 0, (kget ps n.b).getD 0, (kget ps n.a).isSome && (kget ps n.b).isSome)
def valueK (ps : KL) (n : Nd) : Option Int :=
  if (bothK ps n).2.2 = true then
    (if n.op = 4 then some (doI n.v (bothK ps n).1 (bothK ps n).2.1).1 else if n.op = 5 then some (bitI (testI n.v (bothK ps n).1 (bothK ps n).2.1).1) else none)
  else none
theorem lookup_enc {ps : KL} {bm : Nat} {h : H} {c : Nat} {k : Int} {K : Value → Prop} (hm : h bm = some (.map (.int .i64) (encK ps) c)) : o_lookup (.int .i64) (.int .u32 0) (.map (some bm)) (.int .i64 k) true h K ↔ K (.tuple #[.int .u32 ((kget ps k).getD 0), .bool (kget ps k).isSome]) := by
  unfold o_lookup
  simp only [hm, mfind_enc]
  cases kget ps k <;> simp [kkHas] <;> rfl
theorem both_spec {ps : KL} {bm : Nat} {h : H} {c : Nat} {n : Nd} {Q : Value → H → Prop} (hm : h bm = some (.map (.int .i64) (encK ps) c)) (hq : Q (.tuple #[.int .u32 (bothK ps n).1, .int .u32 (bothK ps n).2.1, .bool (bothK ps n).2.2]) h) : AM.Spec Try.prog 33 [.map (some bm), n.val] h Q := by
  refine spec_ret (fun Q hq => ?_) hq
  refine F33_spec _ _ _ _ ?_
  refine ⟨rfl, fun b hb2 hb => ?_⟩
  have hs := Sub.new (o := .cells n.cells 29 .exact) hb
  have hq := hq _ hs
  have hm' := hs _ _ hm
  simp only [Nd.val, Value.cells, bin_eql, bin_neq, bin_lss, bin_leq, bin_gtr, bin_geq, bin_add, bin_sub, un_not, guard_or, guard_and, or_val, and_val, if_bool, conv_int, field_addr, len_sl, ex0, ex1, ex0', ex1', ex2', load_upd, List.getElem?_cons_zero, List.getElem?_cons_succ, Nat.add_zero, Nat.zero_add, List.all_cons, List.all_nil, bx_bool, bx_int, bx_agg, bx_sl, bx_ptr, bx_map, bx_str, bx_func, Bool.and_true, Bool.true_and, Bool.and_self, cond_true, cond_false ]
  refine (lookup_enc hm').2 ?_
  simp only [bin_eql, bin_neq, bin_lss, bin_leq, bin_gtr, bin_geq, bin_add, bin_sub, un_not, guard_or, guard_and, or_val, and_val, if_bool, conv_int, field_addr, len_sl, ex0, ex1, ex0', ex1', ex2', load_upd, List.getElem?_cons_zero, List.getElem?_cons_succ, Nat.add_zero, Nat.zero_add, List.all_cons, List.all_nil, bx_bool, bx_int, bx_agg, bx_sl, bx_ptr, bx_map, bx_str, bx_func, Bool.and_true, Bool.true_and, Bool.and_self, cond_true, cond_false ]
  refine (lookup_enc hm').2 ?_
  simp only [bin_eql, bin_neq, bin_lss, bin_leq, bin_gtr, bin_geq, bin_add, bin_sub, un_not, guard_or, guard_and, or_val, and_val, if_bool, conv_int, field_addr, len_sl, ex0, ex1, ex0', ex1', ex2', load_upd, List.getElem?_cons_zero, List.getElem?_cons_succ, Nat.add_zero, Nat.zero_add, List.all_cons, List.all_nil, bx_bool, bx_int, bx_agg, bx_sl, bx_ptr, bx_map, bx_str, bx_func, Bool.and_true, Bool.true_and, Bool.and_self, cond_true, cond_false ]
  exact hq
def inU (v : Int) : Prop := 0 ≤ v ∧ v < 4294967296
theorem u32_in (a : Int) : inU (u32 a) := by
  unfold u32 IntKind.wrap inU
  simp only [IntKind.signed, Bool.false_and, Bool.false_eq_true, if_false, IntKind.bits]
  constructor
  · exact Int.emod_nonneg _ (by simp)
  · exact Int.emod_lt_of_pos _ (by simp)
theorem bitI_in (b : Bool) : inU (bitI b) := by cases b <;> simp [bitI, inU]
theorem fdiv_in {a : Int} (h : inU a) (n : Nat) : inU (a.fdiv (2 ^ n)) := by
  have hp : (0 : Int) < 2 ^ n := Int.pow_pos (by omega)
  rw [Int.fdiv_eq_ediv_of_nonneg _ (by omega)]
  refine ⟨Int.ediv_nonneg h.1 (by omega), ?_⟩
  have := Int.ediv_le_self (2 ^ n) h.1
  have h2 := h.2
  omega
theorem simpleI_in {k a b v : Int} (ha : inU a) (h : simpleI k a b = some v) : inU v := by
  unfold simpleI at h
  repeat' split at h
  all_goals first | (cases h; first | exact u32_in _ | exact fdiv_in ha _ | exact bitI_in _) | cases h
theorem divI_in {a b : Int} (ha : inU a) : inU (divI a b).1 ∧ inU (divI a b).2 := by
  unfold divI
  repeat' split
  · exact ⟨⟨by simp, by simp⟩, ha⟩
  · exact ⟨ha, ⟨by simp, by simp⟩⟩
  · exact ⟨u32_in _, u32_in _⟩
theorem divuI_in {a b : Int} (ha : inU a) (hb : inU b) : inU (divuI a b).1 ∧ inU (divuI a b).2 := by
  unfold divuI
  split
  · exact ⟨⟨by simp, by simp⟩, ha⟩
  · refine ⟨u32_in _, ?_⟩
    have h1 := Int.tmod_nonneg b ha.1
    have h2 : a.tmod b < b := Int.tmod_lt_of_pos _ (by have := hb.1; omega)
    exact ⟨h1, by have := hb.2; omega⟩
theorem doI_in {k a b : Int} (ha : inU a) (hb : inU b) : inU (doI k a b).1 := by
  unfold doI
  split
  · rename_i v hv; exact simpleI_in ha hv
  · repeat' split
    all_goals first | exact u32_in _ | exact (divI_in ha).1 | exact (divI_in ha).2 | exact (divuI_in ha hb).1 | exact (divuI_in ha hb).2 | exact ⟨by simp, by simp⟩
def kin (ps : KL) : Prop := ∀ k v, kget ps k = some v → inU v
theorem bothK_in {ps : KL} (h : kin ps) (n : Nd) : inU (bothK ps n).1 ∧ inU (bothK ps n).2.1 := by
  unfold bothK
  constructor
  · cases hk : kget ps n.a with
    | none => exact ⟨by simp, by simp⟩
    | some v => exact h _ _ hk
  · cases hk : kget ps n.b with
    | none => exact ⟨by simp, by simp⟩
    | some v => exact h _ _ hk
theorem valueK_in {ps : KL} (h : kin ps) {n : Nd} {v : Int} (hv : valueK ps n = some v) : inU v := by
  have := bothK_in h n
  unfold valueK at hv
  repeat' split at hv
  all_goals first | (cases hv; first | exact doI_in this.1 this.2 | exact bitI_in _) | cases hv
theorem knownv_spec {ps : KL} {bm : Nat} {h : H} {c : Nat} {n : Nd} {Q : Value → H → Prop} (hk : kin ps) (hv : inU n.v) (hm : h bm = some (.map (.int .i64) (encK ps) c)) (hq : Q (.tuple #[.int .u32 ((valueK ps n).getD 0), .bool (valueK ps n).isSome]) h) : AM.Spec Try.prog 27 [.map (some bm), n.val] h Q := by
  refine spec_ret (fun Q hq => ?_) hq
  refine F27_spec _ _ _ _ ?_
  refine ⟨rfl, fun b hb2 hb => ?_⟩
  have hs := Sub.new (o := .cells n.cells 29 .exact) hb
  have hq := hq _ hs
  have hm' := hs _ _ hm
  have hin := bothK_in hk n
  simp only [Nd.val, Value.cells, bin_eql, bin_neq, bin_lss, bin_leq, bin_gtr, bin_geq, bin_add, bin_sub, un_not, guard_or, guard_and, or_val, and_val, if_bool, conv_int, field_addr, len_sl, ex0, ex1, ex0', ex1', ex2', load_upd, List.getElem?_cons_zero, List.getElem?_cons_succ, Nat.add_zero, Nat.zero_add, List.all_cons, List.all_nil, bx_bool, bx_int, bx_agg, bx_sl, bx_ptr, bx_map, bx_str, bx_func, Bool.and_true, Bool.true_and, Bool.and_self, cond_true, cond_false ]
  rw [load_aggU (by rfl)]
  refine ⟨rfl, both_spec (n := n) hm' ?_⟩
  simp only [bin_eql, bin_neq, bin_lss, bin_leq, bin_gtr, bin_geq, bin_add, bin_sub, un_not, guard_or, guard_and, or_val, and_val, if_bool, conv_int, field_addr, len_sl, ex0, ex1, ex0', ex1', ex2', load_upd, List.getElem?_cons_zero, List.getElem?_cons_succ, Nat.add_zero, Nat.zero_add, List.all_cons, List.all_nil, bx_bool, bx_int, bx_agg, bx_sl, bx_ptr, bx_map, bx_str, bx_func, Bool.and_true, Bool.true_and, Bool.and_self, cond_true, cond_false , Bool.or_eq_true, Bool.and_eq_true, decide_eq_true_eq, Bool.not_eq_true', decide_eq_false_iff_not ]
  have hw : IntKind.wrap .i64 n.v = n.v := wrap64 (by have := hv.1; omega) (by have := hv.2; omega)
  split
  · rename_i hno
    refine to_q hq ?_; clear hq
    simp [valueK, hno]
  rename_i hyes
  have hyes : (bothK ps n).2.2 = true := by simpa using hyes
  split
  · rename_i h4
    rw [hw]
    refine ⟨rfl, do_spec hin.2.1 hin.2.2 ?_⟩
    simp only [bin_eql, bin_neq, bin_lss, bin_leq, bin_gtr, bin_geq, bin_add, bin_sub, un_not, guard_or, guard_and, or_val, and_val, if_bool, conv_int, field_addr, len_sl, ex0, ex1, ex0', ex1', ex2', load_upd, List.getElem?_cons_zero, List.getElem?_cons_succ, Nat.add_zero, Nat.zero_add, List.all_cons, List.all_nil, bx_bool, bx_int, bx_agg, bx_sl, bx_ptr, bx_map, bx_str, bx_func, Bool.and_true, Bool.true_and, Bool.and_self, cond_true, cond_false ]
    refine to_q hq ?_; clear hq
    simp [valueK, hyes, h4]
  rename_i h4
  split
  · rename_i h5
    rw [hw]
    refine ⟨rfl, test_spec ?_⟩
    simp only [bin_eql, bin_neq, bin_lss, bin_leq, bin_gtr, bin_geq, bin_add, bin_sub, un_not, guard_or, guard_and, or_val, and_val, if_bool, conv_int, field_addr, len_sl, ex0, ex1, ex0', ex1', ex2', load_upd, List.getElem?_cons_zero, List.getElem?_cons_succ, Nat.add_zero, Nat.zero_add, List.all_cons, List.all_nil, bx_bool, bx_int, bx_agg, bx_sl, bx_ptr, bx_map, bx_str, bx_func, Bool.and_true, Bool.true_and, Bool.and_self, cond_true, cond_false ]
    split
    · rename_i ht
      refine to_q hq ?_; clear hq
      simp [valueK, hyes, h4, h5, bitI, ht]
    · rename_i ht
      refine to_q hq ?_; clear hq
      simp [valueK, hyes, h4, h5, bitI, ht]
  · rename_i h5
    refine to_q hq ?_; clear hq
    simp [valueK, hyes, h4, h5]
theorem wrap_v {v : Int} (h0 : 0 ≤ v) (h1 : v < 4294967296) : IntKind.wrap .i64 v = v := wrap64 (by omega) (by omega)
end Go.Proofs.Ytpdleknbcgpemaa
