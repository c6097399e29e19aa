/-
  alu, and what fold knows of temps.
-/
import Derived.Test.YtpdleknbcgpemaaU5
set_option linter.unusedSimpArgs false
set_option linter.unusedVariables false
namespace Go.Proofs.Ytpdleknbcgpemaa
open AM

def bitI (b : Bool) : Int := if b = true then 1 else 0
def i32 (a : Int) : Int := IntKind.wrap .i32 a
def u32 (a : Int) : Int := IntKind.wrap .u32 a
def sh5 (b : Int) : Int := IntKind.wrap .u32 ((BitVec.ofInt (IntKind.bits .u32) b &&& BitVec.ofInt (IntKind.bits .u32) 31).toNat : Nat)
theorem sh5_nonneg (b : Int) : 0 ≤ sh5 b := by
  unfold sh5 IntKind.wrap
  simp only [IntKind.signed, Bool.false_and, Bool.false_eq_true, if_false]
  exact Int.emod_nonneg _ (by simp [IntKind.bits])
def simpleI (k a b : Int) : Option Int :=
  if k = 0 then some (u32 (a + b))
  else if k = 1 then some (u32 (a - b))
  else if k = 2 then some (u32 (a * 2 ^ (min (sh5 b).toNat 32)))
  else if k = 6 then some (a.fdiv (2 ^ (min (sh5 b).toNat 32)))
  else if k = 7 then some (u32 ((i32 a).fdiv (2 ^ (min (sh5 b).toNat 32))))
  else if k = 3 then some (bitI (decide (i32 a < i32 b)))
  else if k = 4 then some (bitI (decide (a < b)))
  else if k = 5 then some (u32 ((BitVec.ofInt (IntKind.bits .u32) a ^^^ BitVec.ofInt (IntKind.bits .u32) b).toNat : Nat))
  else if k = 8 then some (u32 ((BitVec.ofInt (IntKind.bits .u32) a ||| BitVec.ofInt (IntKind.bits .u32) b).toNat : Nat))
  else if k = 9 then some (u32 ((BitVec.ofInt (IntKind.bits .u32) a &&& BitVec.ofInt (IntKind.bits .u32) b).toNat : Nat))
  else none
theorem bit_spec {b : Bool} {h : H} {Q : Value → H → Prop} (hq : Q (.int .u32 (bitI b)) h) : AM.Spec Try.prog 40 [.bool b] h Q := by
  refine F40_spec _ _ _ ?_
  simp only [F40, F40_0, bin_eql, bin_neq, bin_lss, bin_leq, bin_gtr, bin_geq, bin_add, bin_sub, un_not, guard_or, guard_and, or_val, and_val, if_bool, conv_int, field_addr, len_sl, ex0, ex1, ex0', ex1', ex2', load_upd, List.getElem?_cons_zero, List.getElem?_cons_succ, Nat.add_zero, Nat.zero_add, List.all_cons, List.all_nil, bx_bool, bx_int, bx_agg, bx_sl, bx_ptr, bx_map, bx_str, bx_func, Bool.and_true, Bool.true_and, Bool.and_self, cond_true, cond_false ]
  cases b <;> exact hq
theorem simple_spec {k a b : Int} {h : H} {Q : Value → H → Prop} (hq : Q (.tuple #[.int .u32 ((simpleI k a b).getD 0), .bool (simpleI k a b).isSome]) h) : AM.Spec Try.prog 37 [.int .i64 k, .int .u32 a, .int .u32 b] h Q := by
  refine F37_spec _ _ _ _ _ ?_
  simp only [F37, F37_0, bin_and, bin_or, bin_xor, bin_shl (sh5_nonneg b), bin_shr (sh5_nonneg b), bin_eql, bin_neq, bin_lss, bin_leq, bin_gtr, bin_geq, bin_add, bin_sub, un_not, guard_or, guard_and, or_val, and_val, if_bool, conv_int, field_addr, len_sl, ex0, ex1, ex0', ex1', ex2', load_upd, List.getElem?_cons_zero, List.getElem?_cons_succ, Nat.add_zero, Nat.zero_add, List.all_cons, List.all_nil, bx_bool, bx_int, bx_agg, bx_sl, bx_ptr, bx_map, bx_str, bx_func, Bool.and_true, Bool.true_and, Bool.and_self, cond_true, cond_false , Bool.or_eq_true, Bool.and_eq_true, decide_eq_true_eq, Bool.not_eq_true', decide_eq_false_iff_not ]
  have e : IntKind.wrap .u32 ((BitVec.ofInt (IntKind.bits .u32) b &&& BitVec.ofInt (IntKind.bits .u32) 31).toNat : Nat) = sh5 b := rfl
  rw [e]
  simp only [bin_shl (sh5_nonneg b), bin_shr (sh5_nonneg b), bin_eql, bin_neq, bin_lss, bin_leq, bin_gtr, bin_geq, bin_add, bin_sub, un_not, guard_or, guard_and, or_val, and_val, if_bool, conv_int, field_addr, len_sl, ex0, ex1, ex0', ex1', ex2', load_upd, List.getElem?_cons_zero, List.getElem?_cons_succ, Nat.add_zero, Nat.zero_add, List.all_cons, List.all_nil, bx_bool, bx_int, bx_agg, bx_sl, bx_ptr, bx_map, bx_str, bx_func, Bool.and_true, Bool.true_and, Bool.and_self, cond_true, cond_false ]
  repeat' split
  all_goals first
    | (refine to_q hq ?_; clear hq; simp [simpleI, u32, i32, *]; done)
    | (refine to_q hq ?_; clear hq; simp [simpleI, u32, i32, *]; rfl)
    | (refine ⟨rfl, bit_spec ?_⟩; (try simp only [bin_eql, bin_neq, bin_lss, bin_leq, bin_gtr, bin_geq, bin_add, bin_sub, un_not, guard_or, guard_and, or_val, and_val, if_bool, conv_int, field_addr, len_sl, ex0, ex1, ex0', ex1', ex2', load_upd, List.getElem?_cons_zero, List.getElem?_cons_succ, Nat.add_zero, Nat.zero_add, List.all_cons, List.all_nil, bx_bool, bx_int, bx_agg, bx_sl, bx_ptr, bx_map, bx_str, bx_func, Bool.and_true, Bool.true_and, Bool.and_self, cond_true, cond_false ]); refine to_q hq ?_; clear hq; simp [simpleI, u32, i32, *] <;> rfl)

def divI (a b : Int) : Int × Int :=
  if b = 0 then (4294967295, a)
  else if a = 2147483648 ∧ b = 4294967295 then (a, 0)
  else (u32 (IntKind.wrap .i32 ((i32 a).tdiv (i32 b))), u32 ((i32 a).tmod (i32 b)))
def divuI (a b : Int) : Int × Int := if b = 0 then (4294967295, a) else (u32 (a.tdiv b), a.tmod b)
theorem i32_ne {b : Int} (h0 : 0 ≤ b) (h1 : b < 4294967296) (hb : b ≠ 0) : IntKind.wrap .i32 b ≠ 0 := by
  simp only [IntKind.wrap, IntKind.signed, IntKind.bits]
  simp
  split <;> omega
theorem divide_spec {a b : Int} {h : H} {Q : Value → H → Prop} (h0 : 0 ≤ b) (h1 : b < 4294967296) (hq : Q (.tuple #[.int .u32 (divI a b).1, .int .u32 (divI a b).2]) h) : AM.Spec Try.prog 38 [.int .u32 a, .int .u32 b] h Q := by
  refine F38_spec _ _ _ _ ?_
  by_cases hb : b = 0
  · simp only [F38, F38_0, bin_eql, bin_neq, bin_lss, bin_leq, bin_gtr, bin_geq, bin_add, bin_sub, un_not, guard_or, guard_and, or_val, and_val, if_bool, conv_int, field_addr, len_sl, ex0, ex1, ex0', ex1', ex2', load_upd, List.getElem?_cons_zero, List.getElem?_cons_succ, Nat.add_zero, Nat.zero_add, List.all_cons, List.all_nil, bx_bool, bx_int, bx_agg, bx_sl, bx_ptr, bx_map, bx_str, bx_func, Bool.and_true, Bool.true_and, Bool.and_self, cond_true, cond_false , Bool.or_eq_true, Bool.and_eq_true, decide_eq_true_eq, Bool.not_eq_true', decide_eq_false_iff_not ]
    rw [if_pos hb]
    refine to_q hq ?_; simp [divI, hb]
  · have := i32_ne h0 h1 hb
    simp only [F38, F38_0, F38_1, F38_2, F38_3, bin_eql, bin_neq, bin_lss, bin_leq, bin_gtr, bin_geq, bin_add, bin_sub, un_not, guard_or, guard_and, or_val, and_val, if_bool, conv_int, field_addr, len_sl, ex0, ex1, ex0', ex1', ex2', load_upd, List.getElem?_cons_zero, List.getElem?_cons_succ, Nat.add_zero, Nat.zero_add, List.all_cons, List.all_nil, bx_bool, bx_int, bx_agg, bx_sl, bx_ptr, bx_map, bx_str, bx_func, Bool.and_true, Bool.true_and, Bool.and_self, cond_true, cond_false , Bool.or_eq_true, Bool.and_eq_true, decide_eq_true_eq, Bool.not_eq_true', decide_eq_false_iff_not , bin_quo this, bin_rem this]
    rw [if_neg hb]
    split
    · refine to_q hq ?_; clear hq; simp [divI, *]
    · refine to_q hq ?_; clear hq
      simp only [divI, if_neg hb, if_neg ‹_›]; rfl
theorem divideu_spec {a b : Int} {h : H} {Q : Value → H → Prop} (hq : Q (.tuple #[.int .u32 (divuI a b).1, .int .u32 (divuI a b).2]) h) : AM.Spec Try.prog 39 [.int .u32 a, .int .u32 b] h Q := by
  refine F39_spec _ _ _ _ ?_
  by_cases hb : b = 0
  · simp only [F39, F39_0, bin_eql, bin_neq, bin_lss, bin_leq, bin_gtr, bin_geq, bin_add, bin_sub, un_not, guard_or, guard_and, or_val, and_val, if_bool, conv_int, field_addr, len_sl, ex0, ex1, ex0', ex1', ex2', load_upd, List.getElem?_cons_zero, List.getElem?_cons_succ, Nat.add_zero, Nat.zero_add, List.all_cons, List.all_nil, bx_bool, bx_int, bx_agg, bx_sl, bx_ptr, bx_map, bx_str, bx_func, Bool.and_true, Bool.true_and, Bool.and_self, cond_true, cond_false , Bool.or_eq_true, Bool.and_eq_true, decide_eq_true_eq, Bool.not_eq_true', decide_eq_false_iff_not ]
    rw [if_pos hb]
    refine to_q hq ?_; simp [divuI, hb]
  · simp only [F39, F39_0, F39_1, F39_2, F39_3, bin_eql, bin_neq, bin_lss, bin_leq, bin_gtr, bin_geq, bin_add, bin_sub, un_not, guard_or, guard_and, or_val, and_val, if_bool, conv_int, field_addr, len_sl, ex0, ex1, ex0', ex1', ex2', load_upd, List.getElem?_cons_zero, List.getElem?_cons_succ, Nat.add_zero, Nat.zero_add, List.all_cons, List.all_nil, bx_bool, bx_int, bx_agg, bx_sl, bx_ptr, bx_map, bx_str, bx_func, Bool.and_true, Bool.true_and, Bool.and_self, cond_true, cond_false , Bool.or_eq_true, Bool.and_eq_true, decide_eq_true_eq, Bool.not_eq_true', decide_eq_false_iff_not , bin_quo hb, bin_rem hb]
    rw [if_neg hb]
    refine to_q hq ?_; clear hq
    simp only [divuI, if_neg hb]; rfl
def doI (k a b : Int) : Int × Int :=
  match simpleI k a b with
  | some v => (v, 0)
  | none =>
    if k = 10 then (u32 (a * b), 0)
    else if k = 11 then (u32 ((IntKind.wrap .i64 (IntKind.wrap .i64 (i32 a) * IntKind.wrap .i64 (i32 b))).fdiv (2 ^ 32)), 0)
    else if k = 12 then (u32 ((IntKind.wrap .i64 (IntKind.wrap .i64 (i32 a) * IntKind.wrap .i64 b)).fdiv (2 ^ 32)), 0)
    else if k = 13 then (u32 ((IntKind.wrap .u64 (IntKind.wrap .u64 a * IntKind.wrap .u64 b)).fdiv (2 ^ 32)), 0)
    else if k = 14 then ((divI a b).1, 0)
    else if k = 15 then ((divuI a b).1, 0)
    else if k = 16 then ((divI a b).2, 0)
    else if k = 17 then ((divuI a b).2, 0)
    else (0, 1)
theorem do_spec {k a b : Int} {h : H} {Q : Value → H → Prop} (h0 : 0 ≤ b) (h1 : b < 4294967296) (hq : Q (.tuple #[.int .u32 (doI k a b).1, .int .i64 (doI k a b).2]) h) : AM.Spec Try.prog 34 [.int .i64 k, .int .u32 a, .int .u32 b] h Q := by
  refine F34_spec _ _ _ _ _ ?_
  simp only [F34, F34_0]
  refine ⟨rfl, simple_spec ?_⟩
  simp only [bin_eql, bin_neq, bin_lss, bin_leq, bin_gtr, bin_geq, bin_add, bin_sub, un_not, guard_or, guard_and, or_val, and_val, if_bool, conv_int, field_addr, len_sl, ex0, ex1, ex0', ex1', ex2', load_upd, List.getElem?_cons_zero, List.getElem?_cons_succ, Nat.add_zero, Nat.zero_add, List.all_cons, List.all_nil, bx_bool, bx_int, bx_agg, bx_sl, bx_ptr, bx_map, bx_str, bx_func, Bool.and_true, Bool.true_and, Bool.and_self, cond_true, cond_false ]
  cases hs : simpleI k a b with
  | some v =>
    simp only [Option.isSome_some, if_true]
    refine to_q hq ?_; simp [doI, hs]
  | none =>
    simp only [Option.isSome_none, Bool.false_eq_true, if_false]
    simp only [bin_mul, bin_shr (show (0 : Int) ≤ 32 by omega), bin_eql, bin_neq, bin_lss, bin_leq, bin_gtr, bin_geq, bin_add, bin_sub, un_not, guard_or, guard_and, or_val, and_val, if_bool, conv_int, field_addr, len_sl, ex0, ex1, ex0', ex1', ex2', load_upd, List.getElem?_cons_zero, List.getElem?_cons_succ, Nat.add_zero, Nat.zero_add, List.all_cons, List.all_nil, bx_bool, bx_int, bx_agg, bx_sl, bx_ptr, bx_map, bx_str, bx_func, Bool.and_true, Bool.true_and, Bool.and_self, cond_true, cond_false , Bool.or_eq_true, Bool.and_eq_true, decide_eq_true_eq, Bool.not_eq_true', decide_eq_false_iff_not ]
    have sk : ∀ {x : Int × Int}, doI k a b = x → Q (.tuple #[.int .u32 x.1, .int .i64 x.2]) h := fun e => e ▸ hq
    have hd : doI k a b = (if k = 10 then (u32 (a * b), 0)
      else if k = 11 then (u32 ((IntKind.wrap .i64 (IntKind.wrap .i64 (i32 a) * IntKind.wrap .i64 (i32 b))).fdiv (2 ^ 32)), 0)
      else if k = 12 then (u32 ((IntKind.wrap .i64 (IntKind.wrap .i64 (i32 a) * IntKind.wrap .i64 b)).fdiv (2 ^ 32)), 0)
      else if k = 13 then (u32 ((IntKind.wrap .u64 (IntKind.wrap .u64 a * IntKind.wrap .u64 b)).fdiv (2 ^ 32)), 0)
      else if k = 14 then ((divI a b).1, 0)
      else if k = 15 then ((divuI a b).1, 0)
      else if k = 16 then ((divI a b).2, 0)
      else if k = 17 then ((divuI a b).2, 0)
      else (0, 1)) := by unfold doI; rw [hs]
    rw [hd] at sk
    clear hq
    split
    · exact sk (by rw [if_pos ‹_›])
    rename_i n0; rw [if_neg n0] at sk
    split
    · exact sk (by rw [if_pos ‹_›])
    rename_i n1; rw [if_neg n1] at sk
    split
    · exact sk (by rw [if_pos ‹_›])
    rename_i n2; rw [if_neg n2] at sk
    split
    · exact sk (by rw [if_pos ‹_›])
    rename_i n3; rw [if_neg n3] at sk
    split
    · refine ⟨rfl, divide_spec h0 h1 ?_⟩
      simp only [bin_eql, bin_neq, bin_lss, bin_leq, bin_gtr, bin_geq, bin_add, bin_sub, un_not, guard_or, guard_and, or_val, and_val, if_bool, conv_int, field_addr, len_sl, ex0, ex1, ex0', ex1', ex2', load_upd, List.getElem?_cons_zero, List.getElem?_cons_succ, Nat.add_zero, Nat.zero_add, List.all_cons, List.all_nil, bx_bool, bx_int, bx_agg, bx_sl, bx_ptr, bx_map, bx_str, bx_func, Bool.and_true, Bool.true_and, Bool.and_self, cond_true, cond_false ]
      exact sk (by rw [if_pos ‹_›])
    rename_i n4; rw [if_neg n4] at sk
    split
    · refine ⟨rfl, divideu_spec ?_⟩
      simp only [bin_eql, bin_neq, bin_lss, bin_leq, bin_gtr, bin_geq, bin_add, bin_sub, un_not, guard_or, guard_and, or_val, and_val, if_bool, conv_int, field_addr, len_sl, ex0, ex1, ex0', ex1', ex2', load_upd, List.getElem?_cons_zero, List.getElem?_cons_succ, Nat.add_zero, Nat.zero_add, List.all_cons, List.all_nil, bx_bool, bx_int, bx_agg, bx_sl, bx_ptr, bx_map, bx_str, bx_func, Bool.and_true, Bool.true_and, Bool.and_self, cond_true, cond_false ]
      exact sk (by rw [if_pos ‹_›])
    rename_i n5; rw [if_neg n5] at sk
    split
    · refine ⟨rfl, divide_spec h0 h1 ?_⟩
      simp only [bin_eql, bin_neq, bin_lss, bin_leq, bin_gtr, bin_geq, bin_add, bin_sub, un_not, guard_or, guard_and, or_val, and_val, if_bool, conv_int, field_addr, len_sl, ex0, ex1, ex0', ex1', ex2', load_upd, List.getElem?_cons_zero, List.getElem?_cons_succ, Nat.add_zero, Nat.zero_add, List.all_cons, List.all_nil, bx_bool, bx_int, bx_agg, bx_sl, bx_ptr, bx_map, bx_str, bx_func, Bool.and_true, Bool.true_and, Bool.and_self, cond_true, cond_false ]
      exact sk (by rw [if_pos ‹_›])
    rename_i n6; rw [if_neg n6] at sk
    split
    · refine ⟨rfl, divideu_spec ?_⟩
      simp only [bin_eql, bin_neq, bin_lss, bin_leq, bin_gtr, bin_geq, bin_add, bin_sub, un_not, guard_or, guard_and, or_val, and_val, if_bool, conv_int, field_addr, len_sl, ex0, ex1, ex0', ex1', ex2', load_upd, List.getElem?_cons_zero, List.getElem?_cons_succ, Nat.add_zero, Nat.zero_add, List.all_cons, List.all_nil, bx_bool, bx_int, bx_agg, bx_sl, bx_ptr, bx_map, bx_str, bx_func, Bool.and_true, Bool.true_and, Bool.and_self, cond_true, cond_false ]
      exact sk (by rw [if_pos ‹_›])
    rename_i n7; rw [if_neg n7] at sk
    exact sk rfl
def testI (k a b : Int) : Bool × Int :=
  if k = 0 then (decide (a = b), 0)
  else if k = 1 then (!decide (a = b), 0)
  else if k = 4 then (decide (i32 a < i32 b), 0)
  else if k = 5 then (decide (i32 b ≤ i32 a), 0)
  else if k = 6 then (decide (a < b), 0)
  else if k = 7 then (decide (b ≤ a), 0)
  else (false, 1)
theorem test_spec {k a b : Int} {h : H} {Q : Value → H → Prop} (hq : Q (.tuple #[.bool (testI k a b).1, .int .i64 (testI k a b).2]) h) : AM.Spec Try.prog 35 [.int .i64 k, .int .u32 a, .int .u32 b] h Q := by
  refine F35_spec _ _ _ _ _ ?_
  simp only [F35, F35_0, bin_eql, bin_neq, bin_lss, bin_leq, bin_gtr, bin_geq, bin_add, bin_sub, un_not, guard_or, guard_and, or_val, and_val, if_bool, conv_int, field_addr, len_sl, ex0, ex1, ex0', ex1', ex2', load_upd, List.getElem?_cons_zero, List.getElem?_cons_succ, Nat.add_zero, Nat.zero_add, List.all_cons, List.all_nil, bx_bool, bx_int, bx_agg, bx_sl, bx_ptr, bx_map, bx_str, bx_func, Bool.and_true, Bool.true_and, Bool.and_self, cond_true, cond_false , Bool.or_eq_true, Bool.and_eq_true, decide_eq_true_eq, Bool.not_eq_true', decide_eq_false_iff_not ]
  repeat' split
  all_goals (refine to_q hq ?_; clear hq; simp [testI, i32, *] <;> rfl)
end Go.Proofs.Ytpdleknbcgpemaa
