/-
  The laws' own little functions: equal, clean; Clone.
-/
import Derived.Test.YtpdleknbcgpemaaU3
import Derived.Test.YtpdleknbcgpemaaAMEq
set_option linter.unusedSimpArgs false
set_option linter.unusedVariables false
namespace Go.Proofs.Ytpdleknbcgpemaa
open AM

theorem nd_neq {n m : Nd} {K : Value → Prop} : o_bin Try.prog .neq 29 n.val m.val K = K (.bool (!decide (n = m))) := by
  refine (bin_neqS (r := (n.op == m.op && (n.to == m.to && (n.a == m.a && (n.b == m.b && (n.v == m.v && true)))))) (by kernel_rfl) (by kernel_rfl) (by kernel_rfl) rfl rfl (by kernel_rfl) (by kernel_rfl)).trans ?_
  congr 3
  obtain ⟨a, b, c, d, e⟩ := n
  obtain ⟨a', b', c', d', e'⟩ := m
  rw [Bool.eq_iff_iff]
  simp
theorem equal_spec {v u : Value} {l m : List Nd} {h : H} {Q : Value → H → Prop} (hv : Sl Nd.cells 5 h v l) (hu : Sl Nd.cells 5 h u m) (hl : l.length < 9223372036854775807) (hq : Q (.bool (decide (l = m))) h) : AM.Spec Try.prog 11 [v, u] h Q := by
  refine F11_spec _ _ _ _ ?_
  simp only [F11, F11_0, hv.len, hu.len, bin_eql, bin_neq, bin_lss, bin_leq, bin_gtr, bin_geq, bin_add, bin_sub, un_not, guard_or, guard_and, or_val, and_val, if_bool, conv_int, field_addr, len_sl, ex0, ex1, ex0', ex1', ex2', load_upd, List.getElem?_cons_zero, List.getElem?_cons_succ, Nat.add_zero, Nat.zero_add, List.all_cons, List.all_nil, bx_bool, bx_int, bx_agg, bx_sl, bx_ptr, bx_map, bx_str, bx_func, Bool.and_true, Bool.true_and, Bool.and_self, cond_true, cond_false , Bool.or_eq_true, Bool.and_eq_true, decide_eq_true_eq, Bool.not_eq_true', decide_eq_false_iff_not ]
  by_cases hlen : l.length = m.length
  · rw [if_neg (by simp [hlen])]
    simp only [F11_1, F11_2, F11_3, F11_4]
    refine ⟨fun n s h' => ∃ i : Nat, s = (v, u, .int .i64 i) ∧ h' = h ∧ n = l.length - i ∧ i ≤ l.length ∧ l.take i = m.take i, ⟨_, 0, rfl, rfl, rfl, by omega, rfl⟩, ?_⟩
    rintro n s h' ⟨i, rfl, rfl, rfl, hi, hx⟩
    simp only [F11_5, hv.len, bin_eql, bin_neq, bin_lss, bin_leq, bin_gtr, bin_geq, bin_add, bin_sub, un_not, guard_or, guard_and, or_val, and_val, if_bool, conv_int, field_addr, len_sl, ex0, ex1, ex0', ex1', ex2', load_upd, List.getElem?_cons_zero, List.getElem?_cons_succ, Nat.add_zero, Nat.zero_add, List.all_cons, List.all_nil, bx_bool, bx_int, bx_agg, bx_sl, bx_ptr, bx_map, bx_str, bx_func, Bool.and_true, Bool.true_and, Bool.and_self, cond_true, cond_false , Bool.or_eq_true, Bool.and_eq_true, decide_eq_true_eq, Bool.not_eq_true', decide_eq_false_iff_not ]
    split
    · rename_i hlt
      have hlt : i < l.length := by omega
      have hlm : i < m.length := by omega
      simp only [F11_6, F11_7, F11_8, F11_9]
      refine node_load hv hlt ?_
      refine node_load hu hlm ?_
      rw [nd_neq]
      simp only [F11_10, F11_11, bin_eql, bin_neq, bin_lss, bin_leq, bin_gtr, bin_geq, bin_add, bin_sub, un_not, guard_or, guard_and, or_val, and_val, if_bool, conv_int, field_addr, len_sl, ex0, ex1, ex0', ex1', ex2', load_upd, List.getElem?_cons_zero, List.getElem?_cons_succ, Nat.add_zero, Nat.zero_add, List.all_cons, List.all_nil, bx_bool, bx_int, bx_agg, bx_sl, bx_ptr, bx_map, bx_str, bx_func, Bool.and_true, Bool.true_and, Bool.and_self, cond_true, cond_false , Bool.or_eq_true, Bool.and_eq_true, decide_eq_true_eq, Bool.not_eq_true', decide_eq_false_iff_not ]
      split
      · rename_i hne
        refine to_q hq ?_
        have : l ≠ m := fun he => by subst he; exact hne rfl
        simp [this]
      · rename_i heq
        have heq : l[i] = m[i] := by simpa using heq
        refine ⟨l.length - (i + 1), by omega, i + 1, ?_, trivial, rfl, by omega, ?_⟩
        · rw [wrap64 (by omega) (by omega)]; rfl
        · rw [List.take_add_one, List.take_add_one, hx]
          simp [hlt, hlm, heq]
    · rename_i hge
      have : i = l.length := by omega
      subst this
      rw [List.take_length, hlen, List.take_length] at hx
      simp only [F11_12]
      exact to_q hq (by simp [hx])
  · rw [if_pos (by simpa using fun h => hlen (by omega))]
    refine to_q hq ?_
    have : l ≠ m := fun he => hlen (by rw [he])
    simp [this]

def mustRead (op : Int) : Bool := decide (op = 1) || decide (op = 2) || decide (op = 4) || decide (op = 5)
def readLater : List Nd → Int → Bool
  | [], _ => false
  | n :: r, t => if (rl n).any (fun x => decide (x = t)) = true then true else if writesB n.op = true ∧ n.to = t then false else readLater r t
def cleanB : List Nd → Bool
  | [] => true
  | n :: r => (!mustRead n.op || readLater r n.to) && cleanB r

theorem clean_spec {v : Value} {l : List Nd} {h0 : H} {Q : Value → H → Prop} (hv : Sl Nd.cells 5 h0 v l) (hl : l.length < 9223372036854775806) (hq : Q (.bool (cleanB l)) h0) : AM.Spec Try.prog 12 [v] h0 Q := by
  refine spec_ret (fun Q hq => ?_) hq
  refine F12_spec _ _ _ ?_
  simp only [F12, F12_0, F12_1, F12_2, F12_3, F12_4]
  refine ⟨fun n s h' => ∃ i : Nat, s = (v, .int .i64 i) ∧ Sub h0 h' ∧ n = l.length - i ∧ i ≤ l.length ∧ cleanB l = cleanB (l.drop i), ⟨_, 0, rfl, Sub.refl h0, rfl, by omega, rfl⟩, ?_⟩
  rintro n s h1 ⟨i, rfl, hs1, rfl, hi, hx⟩
  have hv1 := hv.mono hs1
  simp only [F12_5, hv1.len, bin_eql, bin_neq, bin_lss, bin_leq, bin_gtr, bin_geq, bin_add, bin_sub, un_not, guard_or, guard_and, or_val, and_val, if_bool, conv_int, field_addr, len_sl, ex0, ex1, ex0', ex1', ex2', load_upd, List.getElem?_cons_zero, List.getElem?_cons_succ, Nat.add_zero, Nat.zero_add, List.all_cons, List.all_nil, bx_bool, bx_int, bx_agg, bx_sl, bx_ptr, bx_map, bx_str, bx_func, Bool.and_true, Bool.true_and, Bool.and_self, cond_true, cond_false , Bool.or_eq_true, Bool.and_eq_true, decide_eq_true_eq, Bool.not_eq_true', decide_eq_false_iff_not ]
  split
  · rename_i hlt
    have hlt : i < l.length := by omega
    have hd : cleanB (l.drop i) = ((!mustRead l[i].op || readLater (l.drop (i + 1)) l[i].to) && cleanB (l.drop (i + 1))) := by
      rw [List.drop_eq_getElem_cons hlt, cleanB]
    rw [hd] at hx
    simp only [F12_6, F12_7, F12_8]
    refine node_field hv1 hlt (j := 0) rfl ?_
    simp only [bin_eql, bin_neq, bin_lss, bin_leq, bin_gtr, bin_geq, bin_add, bin_sub, un_not, guard_or, guard_and, or_val, and_val, if_bool, conv_int, field_addr, len_sl, ex0, ex1, ex0', ex1', ex2', load_upd, List.getElem?_cons_zero, List.getElem?_cons_succ, Nat.add_zero, Nat.zero_add, List.all_cons, List.all_nil, bx_bool, bx_int, bx_agg, bx_sl, bx_ptr, bx_map, bx_str, bx_func, Bool.and_true, Bool.true_and, Bool.and_self, cond_true, cond_false ]
    refine and_op (b := !decide (l[i].op = 2)) (fun _ K hk => node_field hv1 hlt (j := 0) rfl (by simp only [bin_eql, bin_neq, bin_lss, bin_leq, bin_gtr, bin_geq, bin_add, bin_sub, un_not, guard_or, guard_and, or_val, and_val, if_bool, conv_int, field_addr, len_sl, ex0, ex1, ex0', ex1', ex2', load_upd, List.getElem?_cons_zero, List.getElem?_cons_succ, Nat.add_zero, Nat.zero_add, List.all_cons, List.all_nil, bx_bool, bx_int, bx_agg, bx_sl, bx_ptr, bx_map, bx_str, bx_func, Bool.and_true, Bool.true_and, Bool.and_self, cond_true, cond_false ]; exact hk)) ?_
    simp only [bin_eql, bin_neq, bin_lss, bin_leq, bin_gtr, bin_geq, bin_add, bin_sub, un_not, guard_or, guard_and, or_val, and_val, if_bool, conv_int, field_addr, len_sl, ex0, ex1, ex0', ex1', ex2', load_upd, List.getElem?_cons_zero, List.getElem?_cons_succ, Nat.add_zero, Nat.zero_add, List.all_cons, List.all_nil, bx_bool, bx_int, bx_agg, bx_sl, bx_ptr, bx_map, bx_str, bx_func, Bool.and_true, Bool.true_and, Bool.and_self, cond_true, cond_false ]
    refine and_op (b := !decide (l[i].op = 4)) (fun _ K hk => node_field hv1 hlt (j := 0) rfl (by simp only [bin_eql, bin_neq, bin_lss, bin_leq, bin_gtr, bin_geq, bin_add, bin_sub, un_not, guard_or, guard_and, or_val, and_val, if_bool, conv_int, field_addr, len_sl, ex0, ex1, ex0', ex1', ex2', load_upd, List.getElem?_cons_zero, List.getElem?_cons_succ, Nat.add_zero, Nat.zero_add, List.all_cons, List.all_nil, bx_bool, bx_int, bx_agg, bx_sl, bx_ptr, bx_map, bx_str, bx_func, Bool.and_true, Bool.true_and, Bool.and_self, cond_true, cond_false ]; exact hk)) ?_
    simp only [bin_eql, bin_neq, bin_lss, bin_leq, bin_gtr, bin_geq, bin_add, bin_sub, un_not, guard_or, guard_and, or_val, and_val, if_bool, conv_int, field_addr, len_sl, ex0, ex1, ex0', ex1', ex2', load_upd, List.getElem?_cons_zero, List.getElem?_cons_succ, Nat.add_zero, Nat.zero_add, List.all_cons, List.all_nil, bx_bool, bx_int, bx_agg, bx_sl, bx_ptr, bx_map, bx_str, bx_func, Bool.and_true, Bool.true_and, Bool.and_self, cond_true, cond_false ]
    refine and_op (b := !decide (l[i].op = 5)) (fun _ K hk => node_field hv1 hlt (j := 0) rfl (by simp only [bin_eql, bin_neq, bin_lss, bin_leq, bin_gtr, bin_geq, bin_add, bin_sub, un_not, guard_or, guard_and, or_val, and_val, if_bool, conv_int, field_addr, len_sl, ex0, ex1, ex0', ex1', ex2', load_upd, List.getElem?_cons_zero, List.getElem?_cons_succ, Nat.add_zero, Nat.zero_add, List.all_cons, List.all_nil, bx_bool, bx_int, bx_agg, bx_sl, bx_ptr, bx_map, bx_str, bx_func, Bool.and_true, Bool.true_and, Bool.and_self, cond_true, cond_false ]; exact hk)) ?_
    generalize hKn : (fun y0 y3 h => F12_29 y0 y3 h _ _ _) = Kn
    have next : ∀ h2, Sub h0 h2 → (!mustRead l[i].op || readLater (l.drop (i + 1)) l[i].to) = true → Kn v (.int .i64 i) h2 := by
      intro h2 hs2 hc
      rw [← hKn]
      simp only [F12_29, bin_eql, bin_neq, bin_lss, bin_leq, bin_gtr, bin_geq, bin_add, bin_sub, un_not, guard_or, guard_and, or_val, and_val, if_bool, conv_int, field_addr, len_sl, ex0, ex1, ex0', ex1', ex2', load_upd, List.getElem?_cons_zero, List.getElem?_cons_succ, Nat.add_zero, Nat.zero_add, List.all_cons, List.all_nil, bx_bool, bx_int, bx_agg, bx_sl, bx_ptr, bx_map, bx_str, bx_func, Bool.and_true, Bool.true_and, Bool.and_self, cond_true, cond_false ]
      refine ⟨l.length - (i + 1), by omega, i + 1, ?_, hs2, rfl, by omega, by rw [hx, hc, Bool.true_and]⟩
      rw [wrap64 (by omega) (by omega)]; rfl
    simp only [bin_eql, bin_neq, bin_lss, bin_leq, bin_gtr, bin_geq, bin_add, bin_sub, un_not, guard_or, guard_and, or_val, and_val, if_bool, conv_int, field_addr, len_sl, ex0, ex1, ex0', ex1', ex2', load_upd, List.getElem?_cons_zero, List.getElem?_cons_succ, Nat.add_zero, Nat.zero_add, List.all_cons, List.all_nil, bx_bool, bx_int, bx_agg, bx_sl, bx_ptr, bx_map, bx_str, bx_func, Bool.and_true, Bool.true_and, Bool.and_self, cond_true, cond_false ]
    split
    · rename_i hno
      have := next _ hs1 ?_
      · rw [← hKn] at this; exact this
      simp only [Bool.or_eq_true, Bool.and_eq_true, decide_eq_true_eq, Bool.not_eq_true', decide_eq_false_iff_not ] at hno
      simp [mustRead, hno]
    rename_i hyes
    have hmr : mustRead l[i].op = true := by
      simp only [Bool.or_eq_true, Bool.and_eq_true, decide_eq_true_eq, Bool.not_eq_true', decide_eq_false_iff_not ] at hyes
      simp only [mustRead, Bool.or_eq_true, Bool.and_eq_true, decide_eq_true_eq, Bool.not_eq_true', decide_eq_false_iff_not ]
      omega
    clear hKn
    simp only [F12_9, F12_10, bin_eql, bin_neq, bin_lss, bin_leq, bin_gtr, bin_geq, bin_add, bin_sub, un_not, guard_or, guard_and, or_val, and_val, if_bool, conv_int, field_addr, len_sl, ex0, ex1, ex0', ex1', ex2', load_upd, List.getElem?_cons_zero, List.getElem?_cons_succ, Nat.add_zero, Nat.zero_add, List.all_cons, List.all_nil, bx_bool, bx_int, bx_agg, bx_sl, bx_ptr, bx_map, bx_str, bx_func, Bool.and_true, Bool.true_and, Bool.and_self, cond_true, cond_false ]
    rw [wrap64 (by omega) (by omega)]
    have e1 : ((i : Int) + 1) = ((i + 1 : Nat) : Int) := rfl
    rw [e1]
    generalize hKr : (fun v h => Q v h) = Kr at *
    generalize hK2 : (fun y0 y3 y4 h => F12_28 y0 y3 y4 h Kn _ _ _) = K2
    have fin : ∀ h2, Sub h0 h2 → ∀ b, readLater (l.drop (i + 1)) l[i].to = b → K2 v (.int .i64 i) (.bool b) h2 := by
      intro h2 hs2 b hb
      subst hK2
      simp only [F12_28, bin_eql, bin_neq, bin_lss, bin_leq, bin_gtr, bin_geq, bin_add, bin_sub, un_not, guard_or, guard_and, or_val, and_val, if_bool, conv_int, field_addr, len_sl, ex0, ex1, ex0', ex1', ex2', load_upd, List.getElem?_cons_zero, List.getElem?_cons_succ, Nat.add_zero, Nat.zero_add, List.all_cons, List.all_nil, bx_bool, bx_int, bx_agg, bx_sl, bx_ptr, bx_map, bx_str, bx_func, Bool.and_true, Bool.true_and, Bool.and_self, cond_true, cond_false , Bool.or_eq_true, Bool.and_eq_true, decide_eq_true_eq, Bool.not_eq_true', decide_eq_false_iff_not ]
      split
      · rename_i hbf
        subst hKr
        refine to_q (hq _ hs2) ?_
        rw [hx, hb, hbf, hmr]; rfl
      · rename_i hbt
        have : b = true := by simpa using hbt
        refine next _ hs2 ?_
        rw [hb, this]; simp
    clear hK2
    simp only [F12_11, F12_12]
    refine ⟨fun n s h' => ∃ (k : Nat) (b : Bool), s = (v, .int .i64 i, .bool b, .int .i64 k) ∧ Sub h0 h' ∧ n = l.length - k ∧ k ≤ l.length ∧ readLater (l.drop (i + 1)) l[i].to = (b || readLater (l.drop k) l[i].to), ⟨_, i + 1, false, rfl, hs1, rfl, by omega, by simp⟩, ?_⟩
    rintro n s h2 ⟨k, b, rfl, hs2, rfl, hk, hy⟩
    have hv2 := hv.mono hs2
    simp only [F12_13, hv2.len, bin_eql, bin_neq, bin_lss, bin_leq, bin_gtr, bin_geq, bin_add, bin_sub, un_not, guard_or, guard_and, or_val, and_val, if_bool, conv_int, field_addr, len_sl, ex0, ex1, ex0', ex1', ex2', load_upd, List.getElem?_cons_zero, List.getElem?_cons_succ, Nat.add_zero, Nat.zero_add, List.all_cons, List.all_nil, bx_bool, bx_int, bx_agg, bx_sl, bx_ptr, bx_map, bx_str, bx_func, Bool.and_true, Bool.true_and, Bool.and_self, cond_true, cond_false , Bool.or_eq_true, Bool.and_eq_true, decide_eq_true_eq, Bool.not_eq_true', decide_eq_false_iff_not ]
    split
    · rename_i hcond
      obtain ⟨hklt, hbf⟩ := hcond
      have hklt : k < l.length := by omega
      subst hbf
      simp only [F12_14, F12_15, F12_16]
      refine node_load hv2 hklt ?_
      refine ⟨rfl, reads_spec (n := l[k]) fun v62 h3 hs3 hl3 => ?_⟩
      have hs3' := hs2.trans hs3
      have hv3 := hv.mono hs3'
      have hrd : readLater (l.drop k) l[i].to = (if (rl l[k]).any (fun x => decide (x = l[i].to)) = true then true else if writesB l[k].op = true ∧ l[k].to = l[i].to then false else readLater (l.drop (k + 1)) l[i].to) := by
        rw [List.drop_eq_getElem_cons hklt, readLater]
      simp only [F12_17, F12_18, F12_19, F12_20]
      have hrl : (rl l[k]).length < 10 := by simp [rl]; split <;> split <;> split <;> simp
      refine ⟨fun n s h' => ∃ (q : Nat), s = (v, .int .i64 i, .bool (((rl l[k]).take q).any fun x => decide (x = l[i].to)), .int .i64 k, v62, .int .i64 q) ∧ h' = h3 ∧ n = (rl l[k]).length - q ∧ q ≤ (rl l[k]).length, ⟨_, 0, rfl, rfl, rfl, by omega⟩, ?_⟩
      rintro n s h' ⟨q, rfl, rfl, rfl, hqle⟩
      simp only [F12_21, hl3.len, bin_eql, bin_neq, bin_lss, bin_leq, bin_gtr, bin_geq, bin_add, bin_sub, un_not, guard_or, guard_and, or_val, and_val, if_bool, conv_int, field_addr, len_sl, ex0, ex1, ex0', ex1', ex2', load_upd, List.getElem?_cons_zero, List.getElem?_cons_succ, Nat.add_zero, Nat.zero_add, List.all_cons, List.all_nil, bx_bool, bx_int, bx_agg, bx_sl, bx_ptr, bx_map, bx_str, bx_func, Bool.and_true, Bool.true_and, Bool.and_self, cond_true, cond_false , Bool.or_eq_true, Bool.and_eq_true, decide_eq_true_eq, Bool.not_eq_true', decide_eq_false_iff_not ]
      split
      · rename_i hqlt
        have hqlt : q < (rl l[k]).length := by omega
        simp only [F12_22, F12_23, F12_24]
        simp only [bin_eql, bin_neq, bin_lss, bin_leq, bin_gtr, bin_geq, bin_add, bin_sub, un_not, guard_or, guard_and, or_val, and_val, if_bool, conv_int, field_addr, len_sl, ex0, ex1, ex0', ex1', ex2', load_upd, List.getElem?_cons_zero, List.getElem?_cons_succ, Nat.add_zero, Nat.zero_add, List.all_cons, List.all_nil, bx_bool, bx_int, bx_agg, bx_sl, bx_ptr, bx_map, bx_str, bx_func, Bool.and_true, Bool.true_and, Bool.and_self, cond_true, cond_false ]
        refine or_op (b := decide ((rl l[k])[q] = l[i].to)) (fun _ K hk => ?_) ?_
        · obtain ⟨b, o, g1, g2⟩ := hl3.at hqlt
          rw [g1, load_cell (v := .int .i64 (rl l[k])[q]) (by have := cellAt_part g2 (m := 0) (by omega); simpa [encI] using this)]
          refine node_field hv3 hlt (j := 1) rfl ?_
          simp only [bin_eql, bin_neq, bin_lss, bin_leq, bin_gtr, bin_geq, bin_add, bin_sub, un_not, guard_or, guard_and, or_val, and_val, if_bool, conv_int, field_addr, len_sl, ex0, ex1, ex0', ex1', ex2', load_upd, List.getElem?_cons_zero, List.getElem?_cons_succ, Nat.add_zero, Nat.zero_add, List.all_cons, List.all_nil, bx_bool, bx_int, bx_agg, bx_sl, bx_ptr, bx_map, bx_str, bx_func, Bool.and_true, Bool.true_and, Bool.and_self, cond_true, cond_false ]
          exact hk
        · simp only [F12_25, bin_eql, bin_neq, bin_lss, bin_leq, bin_gtr, bin_geq, bin_add, bin_sub, un_not, guard_or, guard_and, or_val, and_val, if_bool, conv_int, field_addr, len_sl, ex0, ex1, ex0', ex1', ex2', load_upd, List.getElem?_cons_zero, List.getElem?_cons_succ, Nat.add_zero, Nat.zero_add, List.all_cons, List.all_nil, bx_bool, bx_int, bx_agg, bx_sl, bx_ptr, bx_map, bx_str, bx_func, Bool.and_true, Bool.true_and, Bool.and_self, cond_true, cond_false ]
          refine ⟨_, ?_, q + 1, ?_, trivial, rfl, by omega⟩
          · omega
          · rw [wrap64 (by omega) (by omega)]
            have : ((rl l[k]).take (q + 1)).any (fun x => decide (x = l[i].to)) = (((rl l[k]).take q).any (fun x => decide (x = l[i].to)) || decide ((rl l[k])[q] = l[i].to)) := by
              rw [List.take_add_one, List.getElem?_eq_getElem hqlt, List.any_append]
              simp only [Option.toList_some, List.any_cons, List.any_nil, Bool.or_false]
            rw [this]; rfl
      · rename_i hqge
        have : q = (rl l[k]).length := by omega
        subst this
        rw [List.take_length]
        generalize hany : ((rl l[k]).any fun x => decide (x = l[i].to)) = any at *
        simp only [F12_26]
        refine node_load hv3 hklt ?_
        refine ⟨rfl, writes_spec (n := l[k]) ?_⟩
        simp only [bin_eql, bin_neq, bin_lss, bin_leq, bin_gtr, bin_geq, bin_add, bin_sub, un_not, guard_or, guard_and, or_val, and_val, if_bool, conv_int, field_addr, len_sl, ex0, ex1, ex0', ex1', ex2', load_upd, List.getElem?_cons_zero, List.getElem?_cons_succ, Nat.add_zero, Nat.zero_add, List.all_cons, List.all_nil, bx_bool, bx_int, bx_agg, bx_sl, bx_ptr, bx_map, bx_str, bx_func, Bool.and_true, Bool.true_and, Bool.and_self, cond_true, cond_false ]
        have hnext : ∀ (b : Bool), b = any → (any = false → ¬ (writesB l[k].op = true ∧ l[k].to = l[i].to)) → F12_27 v (.int .i64 i) (.bool b) (.int .i64 k) h' (fun y0 y3 y4 y5 h => ∃ m, m < l.length - k ∧ ∃ (k : Nat) (b : Bool), (y0, y3, y4, y5) = (v, Value.int .i64 i, Value.bool b, Value.int .i64 k) ∧ Sub h0 h ∧ m = l.length - k ∧ k ≤ l.length ∧ readLater (l.drop (i + 1)) l[i].to = (b || readLater (l.drop k) l[i].to)) Kr K2 Kn (fun h => F12_30 h Kr Kr) := by
          intro b hb hw
          subst hb
          simp only [F12_27, bin_eql, bin_neq, bin_lss, bin_leq, bin_gtr, bin_geq, bin_add, bin_sub, un_not, guard_or, guard_and, or_val, and_val, if_bool, conv_int, field_addr, len_sl, ex0, ex1, ex0', ex1', ex2', load_upd, List.getElem?_cons_zero, List.getElem?_cons_succ, Nat.add_zero, Nat.zero_add, List.all_cons, List.all_nil, bx_bool, bx_int, bx_agg, bx_sl, bx_ptr, bx_map, bx_str, bx_func, Bool.and_true, Bool.true_and, Bool.and_self, cond_true, cond_false ]
          refine ⟨l.length - (k + 1), by omega, k + 1, b, ?_, hs3', rfl, by omega, ?_⟩
          · rw [wrap64 (by omega) (by omega)]; rfl
          · rw [hy, hrd]
            cases b
            · rw [if_neg (by simp), if_neg (hw rfl)]
            · rw [if_pos rfl]; rfl
        refine and_op (b := decide (l[k].to = l[i].to)) (fun hw K hk => ?_) ?_
        · simp only [hw, if_true]
          refine node_field hv3 hlt (j := 1) rfl ?_
          simp only [bin_eql, bin_neq, bin_lss, bin_leq, bin_gtr, bin_geq, bin_add, bin_sub, un_not, guard_or, guard_and, or_val, and_val, if_bool, conv_int, field_addr, len_sl, ex0, ex1, ex0', ex1', ex2', load_upd, List.getElem?_cons_zero, List.getElem?_cons_succ, Nat.add_zero, Nat.zero_add, List.all_cons, List.all_nil, bx_bool, bx_int, bx_agg, bx_sl, bx_ptr, bx_map, bx_str, bx_func, Bool.and_true, Bool.true_and, Bool.and_self, cond_true, cond_false ]
          exact hk
        simp only [bin_eql, bin_neq, bin_lss, bin_leq, bin_gtr, bin_geq, bin_add, bin_sub, un_not, guard_or, guard_and, or_val, and_val, if_bool, conv_int, field_addr, len_sl, ex0, ex1, ex0', ex1', ex2', load_upd, List.getElem?_cons_zero, List.getElem?_cons_succ, Nat.add_zero, Nat.zero_add, List.all_cons, List.all_nil, bx_bool, bx_int, bx_agg, bx_sl, bx_ptr, bx_map, bx_str, bx_func, Bool.and_true, Bool.true_and, Bool.and_self, cond_true, cond_false , Bool.or_eq_true, Bool.and_eq_true, decide_eq_true_eq, Bool.not_eq_true', decide_eq_false_iff_not ]
        split
        · rename_i hbr
          obtain ⟨⟨hw1, hw2⟩, hw3⟩ := hbr
          refine fin _ hs3' _ ?_
          rw [hy, hrd, hw3, if_neg (by simp), if_pos ⟨hw1, hw2⟩]; rfl
        · rename_i hnb
          refine hnext _ rfl (fun hf hw => hnb ⟨hw, hf⟩)
    · rename_i hcond
      refine fin _ hs2 _ ?_
      rw [hy]
      cases b
      · have : k = l.length := by
          simp at hcond; omega
        subst this
        simp [readLater]
      · simp
  · rename_i hge
    have : i = l.length := by omega
    subst this
    rw [List.drop_length, cleanB] at hx
    simp only [F12_30]
    exact to_q (hq _ hs1) (by simp [hx])
end Go.Proofs.Ytpdleknbcgpemaa
