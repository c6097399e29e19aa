/-
  What the small functions of ir come to.
-/
import Derived.Test.YtpdleknbcgpemaaG1
namespace Go.Proofs.Ytpdleknbcgpemaa
open AM
set_option linter.unusedVariables false
set_option linter.unusedSimpArgs false

structure Nd where
  op : Int
  to : Int
  a : Int
  b : Int
  v : Int
  deriving DecidableEq
def Nd.cells (n : Nd) : List Value := [.int .i64 n.op, .int .i64 n.to, .int .i64 n.a, .int .i64 n.b, .int .u32 n.v]
def Nd.val (n : Nd) : Value := .agg #[.int .i64 n.op, .int .i64 n.to, .int .i64 n.a, .int .i64 n.b, .int .u32 n.v]

def tagsB (op : Int) : Bool := decide (op = 14) || decide (op = 16) || decide (op = 17) || decide (op = 19)
def hasL (op : Int) : Bool × Bool × Bool :=
  if op = 1 ∨ op = 2 ∨ op = 14 then (true, false, false)
  else if op = 4 ∨ op = 5 ∨ op = 16 then (true, true, true)
  else if op = 6 ∨ op = 17 ∨ op = 19 then (true, true, false)
  else if op = 7 ∨ op = 18 then (false, true, true)
  else if op = 3 ∨ op = 15 ∨ op = 10 ∨ op = 11 ∨ op = 20 ∨ op = 21 then (false, true, false)
  else (false, false, false)
def writesB (op : Int) : Bool := decide (op = 1) || (decide (op = 2) || (decide (op = 4) || (decide (op = 5) || decide (op = 6))))
def sizedB (v : Int) : Bool := decide (v = 1) || decide (v = 2) || decide (v = 4)
def idleB (op : Int) : Bool := decide (op = 1) || (decide (op = 2) || (decide (op = 4) || (decide (op = 5) || (decide (op = 14) || (decide (op = 16) || (decide (op = 17) || decide (op = 19)))))))
def valueB (op v : Int) : Bool :=
  if op = 1 ∨ op = 8 ∨ op = 10 ∨ op = 12 then true
  else if op = 2 ∨ op = 14 then decide (v ≤ 31)
  else if op = 3 ∨ op = 15 then decide (1 ≤ v) && decide (v ≤ 31)
  else if op = 4 ∨ op = 16 then decide (v ≤ 17)
  else if op = 5 then decide (v ≤ 7) && !decide (v = 2) && !decide (v = 3)
  else if op = 6 ∨ op = 17 then sizedB v || decide (v = 9) || decide (v = 10)
  else if op = 7 ∨ op = 18 then sizedB v
  else if op = 13 then decide (v = 2) || decide (v = 5) || decide (v = 6)
  else if op = 20 then decide (1 ≤ v) && decide (v ≤ 3)
  else decide (v = 0)
theorem to_q {Q : Value → H → Prop} {v v' : Value} {h : H} (hq : Q v h) (e : v = v') : Q v' h := e ▸ hq
theorem tags_spec {op : Int} {h : H} {Q : Value → H → Prop} (hq : Q (.bool (tagsB op)) h) : AM.Spec Try.prog 24 [.int .i64 op] h Q := by
  refine F24_spec _ _ _ ?_
  unfold F24 F24_0
  simp only [bin_eql, guard_or, or_val]
  exact hq
theorem has_spec {op : Int} {h : H} {Q : Value → H → Prop} (hq : Q (.tuple #[.bool (hasL op).1, .bool (hasL op).2.1, .bool (hasL op).2.2]) h) : AM.Spec Try.prog 29 [.int .i64 op] h Q := by
  refine F29_spec _ _ _ ?_
  simp only [F29, F29_0, F29_1, F29_2, F29_3, F29_4, F29_5_or, F29_6, F29_7, F29_8, F29_9_or, F29_10, F29_11, F29_12, F29_13_or, F29_14, F29_15, F29_16, F29_17_or, F29_18, F29_19, F29_20, F29_21_or, F29_22, F29_23, bin_eql, if_bool, Bool.or_eq_true, decide_eq_true_eq, List.all_cons, List.all_nil, bx_bool, Bool.and_true, cond_true]
  repeat' split
  all_goals (refine to_q hq ?_; clear hq; simp [hasL, *])
theorem idle_spec {op : Int} {h : H} {Q : Value → H → Prop} (hq : Q (.bool (idleB op)) h) : AM.Spec Try.prog 19 [.int .i64 op] h Q := by
  refine F19_spec _ _ _ ?_
  simp only [F19, F19_0, F19_1, F19_2, F19_3, F19_4, F19_5_or, F19_6, F19_7, if_bool]
  split
  all_goals (refine to_q hq ?_; clear hq; simp only [idleB, *])
theorem sized_spec {v : Int} {h : H} {Q : Value → H → Prop} (hq : Q (.bool (sizedB v)) h) : AM.Spec Try.prog 36 [.int .u32 v] h Q := by
  refine F36_spec _ _ _ ?_
  unfold F36 F36_0
  simp only [bin_eql, guard_or, or_val]
  exact hq
def fieldB (is : Bool) (t : Int) : Bool := decide (t = 0) || (is && (decide (0 < t)) && (decide (t < 256)))
theorem field_spec {is : Bool} {t : Int} {h : H} {Q : Value → H → Prop} (hq : Q (.bool (fieldB is t)) h) : AM.Spec Try.prog 31 [.bool is, .int .i64 t] h Q := by
  refine F31_spec _ _ _ _ ?_
  unfold F31 F31_0
  simp only [bin_eql, bin_lss, bin_gtr, guard_or, guard_and, or_val, and_val]
  exact hq
theorem writes_spec {n : Nd} {h : H} {Q : Value → H → Prop} (hq : Q (.tuple #[.int .i64 (if writesB n.op then n.to else 0), .bool (writesB n.op)]) h) : AM.Spec Try.prog 20 [n.val] h Q := by
  refine spec_ret (fun Q hq => ?_) hq
  refine F20_spec _ _ _ ?_
  refine ⟨rfl, fun b hb2 hb => ?_⟩
  have hq := hq _ (Sub.new (o := .cells n.cells 29 .exact) hb)
  simp only [Nd.val, Value.cells, F20_1, F20_2, F20_3, F20_4, F20_5_or, F20_6, F20_7, bin_eql, bin_neq, bin_lss, bin_leq, bin_gtr, bin_geq, bin_add, bin_sub, un_not, guard_or, guard_and, or_val, and_val, if_bool, conv_int, field_addr, len_sl, ex0, ex1, ex0', ex1', ex2', load_upd, List.getElem?_cons_zero, List.getElem?_cons_succ, Nat.add_zero, Nat.zero_add, List.all_cons, List.all_nil, bx_bool, bx_int, bx_agg, bx_sl, bx_ptr, bx_map, bx_str, bx_func, Bool.and_true, Bool.true_and, Bool.and_self, cond_true, cond_false ]
  split
  all_goals (refine to_q hq ?_; clear hq; simp only [writesB, *]; rfl)
theorem value_spec {n : Nd} {h : H} {Q : Value → H → Prop} (hq : Q (.bool (valueB n.op n.v)) h) : AM.Spec Try.prog 30 [n.val] h Q := by
  refine spec_ret (fun Q hq => ?_) hq
  refine F30_spec _ _ _ ?_
  refine ⟨rfl, fun b hb2 hb => ?_⟩
  have hq := hq _ (Sub.new (o := .cells n.cells 29 .exact) hb)
  simp only [Nd.val, Value.cells, F30_1, F30_2, F30_3, F30_4, F30_5_or, F30_6, F30_7, F30_8, F30_9_or, F30_10, F30_11, F30_12, F30_13_or, F30_14, F30_15, F30_16, F30_17_or, F30_18, F30_19, F30_20, F30_21, F30_22, F30_23, F30_24_or, F30_25, F30_26, F30_27, F30_28_or, F30_29, F30_30, bin_eql, bin_neq, bin_lss, bin_leq, bin_gtr, bin_geq, bin_add, bin_sub, un_not, guard_or, guard_and, or_val, and_val, if_bool, conv_int, field_addr, len_sl, ex0, ex1, ex0', ex1', ex2', load_upd, List.getElem?_cons_zero, List.getElem?_cons_succ, Nat.add_zero, Nat.zero_add, List.all_cons, List.all_nil, bx_bool, bx_int, bx_agg, bx_sl, bx_ptr, bx_map, bx_str, bx_func, Bool.and_true, Bool.true_and, Bool.and_self, cond_true, cond_false , Bool.or_eq_true, Bool.and_eq_true, decide_eq_true_eq, Bool.not_eq_true', decide_eq_false_iff_not ]
  repeat' split
  all_goals first
    | (refine to_q hq ?_; clear hq; simp [valueB, *])
    | (refine ⟨rfl, sized_spec ?_⟩; (try simp only [bin_eql, bin_neq, bin_lss, bin_leq, bin_gtr, bin_geq, bin_add, bin_sub, un_not, guard_or, guard_and, or_val, and_val, if_bool, conv_int, field_addr, len_sl, ex0, ex1, ex0', ex1', ex2', load_upd, List.getElem?_cons_zero, List.getElem?_cons_succ, Nat.add_zero, Nat.zero_add, List.all_cons, List.all_nil, bx_bool, bx_int, bx_agg, bx_sl, bx_ptr, bx_map, bx_str, bx_func, Bool.and_true, Bool.true_and, Bool.and_self, cond_true, cond_false ]); refine to_q hq ?_; clear hq; simp [valueB, *])
def formedB (n : Nd) : Bool := decide (1 ≤ n.op) && decide (n.op ≤ 21) && valueB n.op n.v && fieldB (hasL n.op).1 n.to && fieldB (hasL n.op).2.1 n.a && fieldB (hasL n.op).2.2 n.b
theorem formed_spec {n : Nd} {h : H} {Q : Value → H → Prop} (hq : Q (.bool (formedB n)) h) : AM.Spec Try.prog 23 [n.val] h Q := by
  refine spec_ret (fun Q hq => ?_) hq
  refine F23_spec _ _ _ ?_
  refine ⟨rfl, fun b hb2 hb => ?_⟩
  have hq := hq _ (Sub.new (o := .cells n.cells 29 .exact) hb)
  simp only [Nd.val, Value.cells, bin_eql, bin_neq, bin_lss, bin_leq, bin_gtr, bin_geq, bin_add, bin_sub, un_not, guard_or, guard_and, or_val, and_val, if_bool, conv_int, field_addr, len_sl, ex0, ex1, ex0', ex1', ex2', load_upd, List.getElem?_cons_zero, List.getElem?_cons_succ, Nat.add_zero, Nat.zero_add, List.all_cons, List.all_nil, bx_bool, bx_int, bx_agg, bx_sl, bx_ptr, bx_map, bx_str, bx_func, Bool.and_true, Bool.true_and, Bool.and_self, cond_true, cond_false ]
  refine ⟨rfl, has_spec ?_⟩
  simp only [bin_eql, bin_neq, bin_lss, bin_leq, bin_gtr, bin_geq, bin_add, bin_sub, un_not, guard_or, guard_and, or_val, and_val, if_bool, conv_int, field_addr, len_sl, ex0, ex1, ex0', ex1', ex2', load_upd, List.getElem?_cons_zero, List.getElem?_cons_succ, Nat.add_zero, Nat.zero_add, List.all_cons, List.all_nil, bx_bool, bx_int, bx_agg, bx_sl, bx_ptr, bx_map, bx_str, bx_func, Bool.and_true, Bool.true_and, Bool.and_self, cond_true, cond_false ]
  refine and_op (b := valueB n.op n.v) (fun _ K hk => ?_) ?_
  · rw [load_aggU (by rfl)]
    exact ⟨rfl, value_spec (n := n) hk⟩
  simp only [bin_eql, bin_neq, bin_lss, bin_leq, bin_gtr, bin_geq, bin_add, bin_sub, un_not, guard_or, guard_and, or_val, and_val, if_bool, conv_int, field_addr, len_sl, ex0, ex1, ex0', ex1', ex2', load_upd, List.getElem?_cons_zero, List.getElem?_cons_succ, Nat.add_zero, Nat.zero_add, List.all_cons, List.all_nil, bx_bool, bx_int, bx_agg, bx_sl, bx_ptr, bx_map, bx_str, bx_func, Bool.and_true, Bool.true_and, Bool.and_self, cond_true, cond_false ]
  refine and_op (b := fieldB (hasL n.op).1 n.to) (fun _ K hk => ⟨rfl, field_spec hk⟩) ?_
  simp only [bin_eql, bin_neq, bin_lss, bin_leq, bin_gtr, bin_geq, bin_add, bin_sub, un_not, guard_or, guard_and, or_val, and_val, if_bool, conv_int, field_addr, len_sl, ex0, ex1, ex0', ex1', ex2', load_upd, List.getElem?_cons_zero, List.getElem?_cons_succ, Nat.add_zero, Nat.zero_add, List.all_cons, List.all_nil, bx_bool, bx_int, bx_agg, bx_sl, bx_ptr, bx_map, bx_str, bx_func, Bool.and_true, Bool.true_and, Bool.and_self, cond_true, cond_false ]
  refine and_op (b := fieldB (hasL n.op).2.1 n.a) (fun _ K hk => ⟨rfl, field_spec hk⟩) ?_
  simp only [bin_eql, bin_neq, bin_lss, bin_leq, bin_gtr, bin_geq, bin_add, bin_sub, un_not, guard_or, guard_and, or_val, and_val, if_bool, conv_int, field_addr, len_sl, ex0, ex1, ex0', ex1', ex2', load_upd, List.getElem?_cons_zero, List.getElem?_cons_succ, Nat.add_zero, Nat.zero_add, List.all_cons, List.all_nil, bx_bool, bx_int, bx_agg, bx_sl, bx_ptr, bx_map, bx_str, bx_func, Bool.and_true, Bool.true_and, Bool.and_self, cond_true, cond_false ]
  refine and_op (b := fieldB (hasL n.op).2.2 n.b) (fun _ K hk => ⟨rfl, field_spec hk⟩) ?_
  exact hq
end Go.Proofs.Ytpdleknbcgpemaa
