/-
  What the small functions of ir come to.
-/
import Derived.Test.YtcohcmlidmaaoaaGreatUG
set_option linter.unusedVariables false
set_option linter.unusedSimpArgs false
namespace Go.Proofs.YtcohcmlidmaaoaaGreat
open AM
structure Nd where
  op : Int
  to : Int
  a : Int
  b : Int
  v : Int
  deriving DecidableEq
def Nd.cells (n : Nd) : List Value := [.int .i64 n.op, .int .i64 n.to, .int .i64 n.a, .int .i64 n.b, .int .u32 n.v]
def Nd.val (n : Nd) : Value := .agg #[.int .i64 n.op, .int .i64 n.to, .int .i64 n.a, .int .i64 n.b, .int .u32 n.v]
def tagsB (op : Int) : Bool := decide (op = 14) || decide (op = 16) || decide (op = 17) || decide (op = 19)
def hasL (op : Int) : Bool × Bool × Bool :=
  if op = 1 ∨ op = 2 ∨ op = 14 then (true, false, false)
  else if op = 4 ∨ op = 5 ∨ op = 16 then (true, true, true)
  else if op = 6 ∨ op = 17 ∨ op = 19 then (true, true, false)
  else if op = 7 ∨ op = 18 then (false, true, true)
  else if op = 3 ∨ op = 15 ∨ op = 10 ∨ op = 11 ∨ op = 20 ∨ op = 21 then (false, true, false)
  else (false, false, false)
def writesB (op : Int) : Bool := decide (op = 1) || (decide (op = 2) || (decide (op = 4) || (decide (op = 5) || decide (op = 6))))
def sizedB (v : Int) : Bool := decide (v = 1) || decide (v = 2) || decide (v = 4)
def valueB (op v : Int) : Bool :=
  if op = 1 ∨ op = 8 ∨ op = 10 ∨ op = 12 then true
  else if op = 2 ∨ op = 14 then decide (v ≤ 31)
  else if op = 3 ∨ op = 15 then decide (1 ≤ v) && decide (v ≤ 31)
  else if op = 4 ∨ op = 16 then decide (v ≤ 17)
  else if op = 5 then decide (v ≤ 7) && !decide (v = 2) && !decide (v = 3)
  else if op = 6 ∨ op = 17 then sizedB v || decide (v = 9) || decide (v = 10)
  else if op = 7 ∨ op = 18 then sizedB v
  else if op = 13 then decide (v = 2) || decide (v = 5) || decide (v = 6)
  else if op = 20 then decide (1 ≤ v) && decide (v ≤ 3)
  else decide (v = 0)
theorem to_q {Q : Value → H → Prop} {v v' : Value} {h : H} (hq : Q v h) (e : v = v') : Q v' h := e ▸ hq
theorem tags_spec {op : Int} {h : H} {Q : Value → H → Prop} (hq : Q (.bool (tagsB op)) h) : AM.Spec Tryz.prog 18 [.int .i64 op] h Q := by
  refine F18_spec _ _ _ ?_
  unfold F18 F18_0
  simp only [bin_eql, guard_or, or_val]
  exact hq
theorem has_spec {op : Int} {h : H} {Q : Value → H → Prop} (hq : Q (.tuple #[.bool (hasL op).1, .bool (hasL op).2.1, .bool (hasL op).2.2]) h) : AM.Spec Tryz.prog 55 [.int .i64 op] h Q := by
  refine F55_spec _ _ _ ?_
  simp only [F55, F55_0, F55_1, F55_2, F55_3, F55_4, F55_5_or, F55_6, F55_7, F55_8, F55_9_or, F55_10, F55_11, F55_12, F55_13_or, F55_14, F55_15, F55_16, F55_17_or, F55_18, F55_19, F55_20, F55_21_or, F55_22, F55_23, bin_eql, if_bool, Bool.or_eq_true, decide_eq_true_eq, List.all_cons, List.all_nil, bx_bool, Bool.and_true, cond_true]
  repeat' split
  all_goals (refine to_q hq ?_; clear hq; simp [hasL, *])
theorem sized_spec {v : Int} {h : H} {Q : Value → H → Prop} (hq : Q (.bool (sizedB v)) h) : AM.Spec Tryz.prog 95 [.int .u32 v] h Q := by
  refine F95_spec _ _ _ ?_
  unfold F95 F95_0
  simp only [bin_eql, guard_or, or_val]
  exact hq
def fieldB (is : Bool) (t : Int) : Bool := decide (t = 0) || (is && (decide (0 < t)) && (decide (t < 256)))
theorem field_spec {is : Bool} {t : Int} {h : H} {Q : Value → H → Prop} (hq : Q (.bool (fieldB is t)) h) : AM.Spec Tryz.prog 57 [.bool is, .int .i64 t] h Q := by
  refine F57_spec _ _ _ _ ?_
  unfold F57 F57_0
  simp only [bin_eql, bin_lss, bin_gtr, guard_or, guard_and, or_val, and_val]
  exact hq
theorem writes_spec {n : Nd} {h : H} {Q : Value → H → Prop} (hq : Q (.tuple #[.int .i64 (if writesB n.op then n.to else 0), .bool (writesB n.op)]) h) : AM.Spec Tryz.prog 22 [n.val] h Q := by
  refine spec_ret (fun Q hq => ?_) hq
  refine F22_spec _ _ _ ?_
  refine ⟨rfl, fun b hb2 hb => ?_⟩
  have hq := hq _ (Sub.new (o := .cells n.cells 40 .exact) hb)
  simp only [Nd.val, Value.cells, F22_1, F22_2, F22_3, F22_4, F22_5_or, F22_6, F22_7, bin_eql, bin_neq, bin_lss, bin_leq, bin_gtr, bin_geq, bin_add, bin_sub, un_not, guard_or, guard_and, or_val, and_val, if_bool, conv_int, field_addr, len_sl, ex0, ex1, ex0', ex1', ex2', load_upd, List.getElem?_cons_zero, List.getElem?_cons_succ, Nat.add_zero, Nat.zero_add, List.all_cons, List.all_nil, bx_bool, bx_int, bx_agg, bx_sl, bx_ptr, bx_map, bx_str, bx_func, Bool.and_true, Bool.true_and, Bool.and_self, cond_true, cond_false ]
  split
  all_goals (refine to_q hq ?_; clear hq; simp only [writesB, *]; rfl)
theorem value_spec {n : Nd} {h : H} {Q : Value → H → Prop} (hq : Q (.bool (valueB n.op n.v)) h) : AM.Spec Tryz.prog 56 [n.val] h Q := by
  refine spec_ret (fun Q hq => ?_) hq
  refine F56_spec _ _ _ ?_
  refine ⟨rfl, fun b hb2 hb => ?_⟩
  have hq := hq _ (Sub.new (o := .cells n.cells 40 .exact) hb)
  simp only [Nd.val, Value.cells, F56_1, F56_2, F56_3, F56_4, F56_5_or, F56_6, F56_7, F56_8, F56_9_or, F56_10, F56_11, F56_12, F56_13_or, F56_14, F56_15, F56_16, F56_17_or, F56_18, F56_19, F56_20, F56_21, F56_22, F56_23, F56_24_or, F56_25, F56_26, F56_27, F56_28_or, F56_29, F56_30, bin_eql, bin_neq, bin_lss, bin_leq, bin_gtr, bin_geq, bin_add, bin_sub, un_not, guard_or, guard_and, or_val, and_val, if_bool, conv_int, field_addr, len_sl, ex0, ex1, ex0', ex1', ex2', load_upd, List.getElem?_cons_zero, List.getElem?_cons_succ, Nat.add_zero, Nat.zero_add, List.all_cons, List.all_nil, bx_bool, bx_int, bx_agg, bx_sl, bx_ptr, bx_map, bx_str, bx_func, Bool.and_true, Bool.true_and, Bool.and_self, cond_true, cond_false , Bool.or_eq_true, Bool.and_eq_true, decide_eq_true_eq, Bool.not_eq_true', decide_eq_false_iff_not ]
  repeat' split
  all_goals first
    | (refine to_q hq ?_; clear hq; simp [valueB, *])
    | (refine ⟨rfl, sized_spec ?_⟩; (try simp only [bin_eql, bin_neq, bin_lss, bin_leq, bin_gtr, bin_geq, bin_add, bin_sub, un_not, guard_or, guard_and, or_val, and_val, if_bool, conv_int, field_addr, len_sl, ex0, ex1, ex0', ex1', ex2', load_upd, List.getElem?_cons_zero, List.getElem?_cons_succ, Nat.add_zero, Nat.zero_add, List.all_cons, List.all_nil, bx_bool, bx_int, bx_agg, bx_sl, bx_ptr, bx_map, bx_str, bx_func, Bool.and_true, Bool.true_and, Bool.and_self, cond_true, cond_false ]); refine to_q hq ?_; clear hq; simp [valueB, *])
def formedB (n : Nd) : Bool := decide (1 ≤ n.op) && decide (n.op ≤ 21) && valueB n.op n.v && fieldB (hasL n.op).1 n.to && fieldB (hasL n.op).2.1 n.a && fieldB (hasL n.op).2.2 n.b
theorem formed_spec {n : Nd} {h : H} {Q : Value → H → Prop} (hq : Q (.bool (formedB n)) h) : AM.Spec Tryz.prog 17 [n.val] h Q := by
  refine spec_ret (fun Q hq => ?_) hq
  refine F17_spec _ _ _ ?_
  refine ⟨rfl, fun b hb2 hb => ?_⟩
  have hq := hq _ (Sub.new (o := .cells n.cells 40 .exact) hb)
  simp only [Nd.val, Value.cells, bin_eql, bin_neq, bin_lss, bin_leq, bin_gtr, bin_geq, bin_add, bin_sub, un_not, guard_or, guard_and, or_val, and_val, if_bool, conv_int, field_addr, len_sl, ex0, ex1, ex0', ex1', ex2', load_upd, List.getElem?_cons_zero, List.getElem?_cons_succ, Nat.add_zero, Nat.zero_add, List.all_cons, List.all_nil, bx_bool, bx_int, bx_agg, bx_sl, bx_ptr, bx_map, bx_str, bx_func, Bool.and_true, Bool.true_and, Bool.and_self, cond_true, cond_false ]
  refine ⟨rfl, has_spec ?_⟩
  simp only [bin_eql, bin_neq, bin_lss, bin_leq, bin_gtr, bin_geq, bin_add, bin_sub, un_not, guard_or, guard_and, or_val, and_val, if_bool, conv_int, field_addr, len_sl, ex0, ex1, ex0', ex1', ex2', load_upd, List.getElem?_cons_zero, List.getElem?_cons_succ, Nat.add_zero, Nat.zero_add, List.all_cons, List.all_nil, bx_bool, bx_int, bx_agg, bx_sl, bx_ptr, bx_map, bx_str, bx_func, Bool.and_true, Bool.true_and, Bool.and_self, cond_true, cond_false ]
  refine and_op (b := valueB n.op n.v) (fun _ K hk => ?_) ?_
  · rw [load_aggU (by rfl)]
    exact ⟨rfl, value_spec (n := n) hk⟩
  simp only [bin_eql, bin_neq, bin_lss, bin_leq, bin_gtr, bin_geq, bin_add, bin_sub, un_not, guard_or, guard_and, or_val, and_val, if_bool, conv_int, field_addr, len_sl, ex0, ex1, ex0', ex1', ex2', load_upd, List.getElem?_cons_zero, List.getElem?_cons_succ, Nat.add_zero, Nat.zero_add, List.all_cons, List.all_nil, bx_bool, bx_int, bx_agg, bx_sl, bx_ptr, bx_map, bx_str, bx_func, Bool.and_true, Bool.true_and, Bool.and_self, cond_true, cond_false ]
  refine and_op (b := fieldB (hasL n.op).1 n.to) (fun _ K hk => ⟨rfl, field_spec hk⟩) ?_
  simp only [bin_eql, bin_neq, bin_lss, bin_leq, bin_gtr, bin_geq, bin_add, bin_sub, un_not, guard_or, guard_and, or_val, and_val, if_bool, conv_int, field_addr, len_sl, ex0, ex1, ex0', ex1', ex2', load_upd, List.getElem?_cons_zero, List.getElem?_cons_succ, Nat.add_zero, Nat.zero_add, List.all_cons, List.all_nil, bx_bool, bx_int, bx_agg, bx_sl, bx_ptr, bx_map, bx_str, bx_func, Bool.and_true, Bool.true_and, Bool.and_self, cond_true, cond_false ]
  refine and_op (b := fieldB (hasL n.op).2.1 n.a) (fun _ K hk => ⟨rfl, field_spec hk⟩) ?_
  simp only [bin_eql, bin_neq, bin_lss, bin_leq, bin_gtr, bin_geq, bin_add, bin_sub, un_not, guard_or, guard_and, or_val, and_val, if_bool, conv_int, field_addr, len_sl, ex0, ex1, ex0', ex1', ex2', load_upd, List.getElem?_cons_zero, List.getElem?_cons_succ, Nat.add_zero, Nat.zero_add, List.all_cons, List.all_nil, bx_bool, bx_int, bx_agg, bx_sl, bx_ptr, bx_map, bx_str, bx_func, Bool.and_true, Bool.true_and, Bool.and_self, cond_true, cond_false ]
  refine and_op (b := fieldB (hasL n.op).2.2 n.b) (fun _ K hk => ⟨rfl, field_spec hk⟩) ?_
  exact hq
end Go.Proofs.YtcohcmlidmaaoaaGreat
