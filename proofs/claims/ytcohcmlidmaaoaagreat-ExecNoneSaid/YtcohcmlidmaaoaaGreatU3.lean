/-
  Whether a list may be: ir.Good.
-/
import Derived.Test.YtcohcmlidmaaoaaGreatU2
set_option linter.unusedSimpArgs false
set_option linter.unusedVariables false
set_option maxRecDepth 100000
namespace Go.Proofs.YtcohcmlidmaaoaaGreat
open AM
def bools (th : Int → Bool) : List Value := (List.range 256).map fun i => .bool (th (i : Nat))
theorem bools_none : List.replicate 256 (Value.bool false) = bools (fun _ => false) := by
  simp [bools, List.map_const']
theorem bools_get {th : Int → Bool} {i : Int} (h0 : 0 ≤ i) (h1 : i < 256) : (bools th)[i.toNat]? = some (.bool (th i)) := by
  unfold bools
  have : i.toNat < 256 := by omega
  simp [this, Int.toNat_of_nonneg h0]
theorem bools_len {th : Int → Bool} : (bools th).length = 256 := by simp [bools]
def put (th : Int → Bool) (t : Int) (b : Bool) : Int → Bool := fun i => if i = t then b else th i
theorem bools_set {th : Int → Bool} {i : Int} {b : Bool} (h0 : 0 ≤ i) (h1 : i < 256) : setL (bools th) i.toNat [.bool b] = bools (put th i b) := by
  unfold bools put
  simp only [setL]
  refine List.ext_getElem? fun k => ?_
  rw [List.getElem?_set]
  simp only [List.length_map, List.length_range, List.getElem?_map, List.getElem?_range]
  by_cases hk : k < 256
  · by_cases he : i.toNat = k
    · subst he
      simp [hk, Int.toNat_of_nonneg h0]
    · have : ¬ ((k : Int) = i) := by omega
      simp [he, hk, this]
  · have : ¬ (i.toNat = k) := by omega
    simp [this, hk]
theorem field_in {is : Bool} {t : Int} (h : fieldB is t = true) : 0 ≤ t ∧ t < 256 := by
  simp only [fieldB, Bool.or_eq_true, Bool.and_eq_true, decide_eq_true_eq] at h
  omega
def goodRun : List Nd → (Int → Bool) → Bool
  | [], _ => true
  | n :: r, th => formedB n && !(tagsB n.op && !th n.to) && !((rl n).any fun t => !th t) && goodRun r (if writesB n.op then put th n.to true else th)
def lastOp : List Nd → Int
  | [] => 0
  | [n] => n.op
  | _ :: r => lastOp r
def goodB (l : List Nd) : Bool :=
  match l with
  | [] => false
  | n :: _ => decide (l.length ≤ 2000) && decide (n.op = 8) && goodRun l (fun _ => false) && (decide (11 ≤ lastOp l) && decide (lastOp l ≤ 13))
theorem formed_in {n : Nd} (h : formedB n = true) : 0 ≤ n.to ∧ n.to < 256 ∧ 0 ≤ n.a ∧ n.a < 256 ∧ 0 ≤ n.b ∧ n.b < 256 := by
  simp only [formedB, Bool.and_eq_true] at h
  have h1 := field_in h.1.1.2
  have h2 := field_in h.1.2
  have h3 := field_in h.2
  omega
theorem rl_in {n : Nd} (h : formedB n = true) : ∀ t ∈ rl n, 0 ≤ t ∧ t < 256 := by
  have := formed_in h
  intro t ht
  simp only [rl, List.mem_append] at ht
  rcases ht with (ht | ht) | ht <;> (split at ht <;> simp at ht; subst ht; omega)
theorem lastOp_get : ∀ {l : List Nd} (h : l ≠ []), lastOp l = (l[l.length - 1]'(by cases l <;> simp at h ⊢)).op
  | [n], _ => rfl
  | _ :: n :: r, _ => by
    have := lastOp_get (l := n :: r) (by simp)
    simp only [lastOp] at this ⊢
    rw [this]; simp
theorem node_load {h : H} {v : Value} {l : List Nd} (hs : Sl Nd.cells 5 h v l) {i : Nat} (hi : i < l.length) {k : IntKind} {K : Value → Prop} (hk : K l[i].val) : o_indexAddr none 5 v (.int k i) fun p => o_load true 5 p h K := by
  obtain ⟨b, o, h1, h2⟩ := hs.at hi
  rw [h1, load_agg h2]; exact hk
theorem node_field {h : H} {v : Value} {l : List Nd} (hs : Sl Nd.cells 5 h v l) {i : Nat} (hi : i < l.length) {k : IntKind} {j : Nat} {x : Value} (hx : l[i].cells[j]? = some x) {K : Value → Prop} (hk : K x) : o_indexAddr none 5 v (.int k i) fun p => o_fieldAddr j p fun q => o_load false 1 q h K := by
  obtain ⟨b, o, h1, h2⟩ := hs.at hi
  have hj : j < 5 := by
    have := List.getElem?_eq_some_iff.1 hx
    exact this.1
  rw [h1, field_addr, load_cell (v := x) (by rw [cellAt_part h2 hj]; exact hx)]; exact hk
theorem there_spec {h : H} {b : Nat} {th : Int → Bool} {t : Int} (hb : h b = some (.cells (bools th) 92 .exact)) (h0 : 0 ≤ t) (h1 : t < 256) {K : Value → H → Prop} (hk : K (.bool (!th t)) h) : o_dyn Tryz.prog (.func (.func 21) #[] #[.pointer (some ⟨b, 0, none⟩)]) [.int .i64 t] h K := by
  refine ⟨rfl, by kernel_rfl, ?_⟩
  refine F21_spec _ _ _ _ ?_
  simp only [F21, F21_0]
  rw [index_arr h0 (by simpa using h1), load_cell (v := .bool (th t)) (by rw [cellAt_of hb]; simpa using bools_get h0 h1)]
  simp only [bin_eql, bin_neq, bin_lss, bin_leq, bin_gtr, bin_geq, bin_add, bin_sub, un_not, guard_or, guard_and, or_val, and_val, if_bool, conv_int, field_addr, len_sl, ex0, ex1, ex0', ex1', ex2', load_upd, List.getElem?_cons_zero, List.getElem?_cons_succ, Nat.add_zero, Nat.zero_add, List.all_cons, List.all_nil, bx_bool, bx_int, bx_agg, bx_sl, bx_ptr, bx_map, bx_str, bx_func, Bool.and_true, Bool.true_and, Bool.and_self, cond_true, cond_false ]
  exact hk
theorem goodRun_step {th : Int → Bool} {l : List Nd} {i : Nat} (hi : i < l.length) : goodRun (l.drop i) th = (formedB l[i] && !(tagsB l[i].op && !th l[i].to) && !((rl l[i]).any fun t => !th t) && goodRun (l.drop (i + 1)) (if writesB l[i].op then put th l[i].to true else th)) := by
  rw [List.drop_eq_getElem_cons hi, goodRun]
theorem store_nd {b : Nat} {h : H} {c0 c1 c2 c3 c4 : Value} {E : TypeId} {n : Nd} {K : H → Prop} : o_store 5 (.pointer (some ⟨b, 0, none⟩)) n.val (upd h b (.cells [c0, c1, c2, c3, c4] E .exact)) K = K (upd h b (.cells n.cells E .exact)) := by
  rw [store_ok (upd_same _ _ _) (by simp) (by rfl) (by rfl) (by simp)]
  have eu : ∀ q q', upd (upd h b q) b q' = upd h b q' := fun q q' => by funext c; unfold upd; split <;> rfl
  rw [eu]; rfl
theorem good_spec {v : Value} {l : List Nd} {h : H} {Q : Value → H → Prop} (hs : Sl Nd.cells 5 h v l) (hlen : l.length < 9223372036854775807) (hq : Q (.bool (goodB l)) h) : AM.Spec Tryz.prog 8 [v] h Q := by
  refine spec_ret (fun Q hq => ?_) hq
  refine F8_spec _ _ _ ?_
  simp only [F8, F8_0, hs.len, bin_eql, bin_neq, bin_lss, bin_leq, bin_gtr, bin_geq, bin_add, bin_sub, un_not, guard_or, guard_and, or_val, and_val, if_bool, conv_int, field_addr, len_sl, ex0, ex1, ex0', ex1', ex2', load_upd, List.getElem?_cons_zero, List.getElem?_cons_succ, Nat.add_zero, Nat.zero_add, List.all_cons, List.all_nil, bx_bool, bx_int, bx_agg, bx_sl, bx_ptr, bx_map, bx_str, bx_func, Bool.and_true, Bool.true_and, Bool.and_self, cond_true, cond_false ]
  cases l with
  | nil => exact hq _ (Sub.refl h)
  | cons n r =>
    have hne : ¬ (((n :: r).length : Nat) : Int) = 0 := by simp; omega
    refine or_op (b := !decide (n.op = 8)) (fun hf K hk => ?_) ?_
    · refine node_field (i := 0) hs (by simp) (j := 0) rfl ?_
      simp only [bin_eql, bin_neq, bin_lss, bin_leq, bin_gtr, bin_geq, bin_add, bin_sub, un_not, guard_or, guard_and, or_val, and_val, if_bool, conv_int, field_addr, len_sl, ex0, ex1, ex0', ex1', ex2', load_upd, List.getElem?_cons_zero, List.getElem?_cons_succ, Nat.add_zero, Nat.zero_add, List.all_cons, List.all_nil, bx_bool, bx_int, bx_agg, bx_sl, bx_ptr, bx_map, bx_str, bx_func, Bool.and_true, Bool.true_and, Bool.and_self, cond_true, cond_false ]; exact hk
    simp only [bin_eql, bin_neq, bin_lss, bin_leq, bin_gtr, bin_geq, bin_add, bin_sub, un_not, guard_or, guard_and, or_val, and_val, if_bool, conv_int, field_addr, len_sl, ex0, ex1, ex0', ex1', ex2', load_upd, List.getElem?_cons_zero, List.getElem?_cons_succ, Nat.add_zero, Nat.zero_add, List.all_cons, List.all_nil, bx_bool, bx_int, bx_agg, bx_sl, bx_ptr, bx_map, bx_str, bx_func, Bool.and_true, Bool.true_and, Bool.and_self, cond_true, cond_false , hne, decide_false, Bool.false_or, Bool.or_eq_true, Bool.and_eq_true, decide_eq_true_eq, Bool.not_eq_true', decide_eq_false_iff_not ]
    by_cases h1 : (2000 : Int) < (n :: r).length ∨ ¬ n.op = 8
    · rw [if_pos h1]
      refine to_q (hq _ (Sub.refl h)) ?_
      simp only [goodB]
      rcases h1 with h1 | h1
      · have : decide ((n :: r).length ≤ 2000) = false := by rw [decide_eq_false_iff_not]; omega
        rw [this]; rfl
      · simp [h1]
    rw [if_neg h1]
    have h2 : (n :: r).length ≤ 2000 := by omega
    have h3 : n.op = 8 := by omega
    intro b hb2 hb
    rw [bools_none]
    have hgood : goodB (n :: r) = (goodRun (n :: r) (fun _ => false) && (decide (11 ≤ lastOp (n :: r)) && decide (lastOp (n :: r) ≤ 13))) := by
      have : decide ((n :: r).length ≤ 2000) = true := by rw [decide_eq_true_eq]; omega
      simp only [goodB, this, h3, decide_true, Bool.true_and]
    have hnil : n :: r ≠ [] := by simp
    generalize hl : n :: r = l at *
    rw [hgood] at hq
    have hs1 : Sub h (upd h b (.cells (bools fun _ => false) 92 .exact)) := Sub.new hb
    simp only [F8_1, F8_2, hs.len, F8_3, F8_4]
    refine ⟨fun n s h' => ∃ i th, s = (v, .pointer (some ⟨b, 0, none⟩), v, .int .i64 l.length, .int .i64 (i : Nat)) ∧ Sub h h' ∧ h' b = some (.cells (bools th) 92 .exact) ∧ n = l.length - i ∧ i ≤ l.length ∧ goodRun l (fun _ => false) = goodRun (l.drop i) th,
      ⟨_, 0, _, rfl, hs1, upd_same _ _ _, rfl, by omega, rfl⟩, ?_⟩
    rintro m s h' ⟨i, th, rfl, hsub, hb', rfl, hi, hrun⟩
    have hs' := hs.mono hsub
    simp only [F8_5, bin_eql, bin_neq, bin_lss, bin_leq, bin_gtr, bin_geq, bin_add, bin_sub, un_not, guard_or, guard_and, or_val, and_val, if_bool, conv_int, field_addr, len_sl, ex0, ex1, ex0', ex1', ex2', load_upd, List.getElem?_cons_zero, List.getElem?_cons_succ, Nat.add_zero, Nat.zero_add, List.all_cons, List.all_nil, bx_bool, bx_int, bx_agg, bx_sl, bx_ptr, bx_map, bx_str, bx_func, Bool.and_true, Bool.true_and, Bool.and_self, cond_true, cond_false , Bool.or_eq_true, Bool.and_eq_true, decide_eq_true_eq, Bool.not_eq_true', decide_eq_false_iff_not ]
    split
    · rename_i hlt
      have hlt : i < l.length := by omega
      simp only [F8_6, F8_7]
      refine node_load hs' hlt ?_
      intro b5 hb52 hb5
      have hbb : b5 ≠ b := fun he => by rw [he, hb'] at hb5; cases hb5
      rw [store_nd]
      have h5 : ∀ q, Sub h (upd h' b5 q) := fun q => hsub.upd (hsub.none hb5)
      rw [load_aggU (by rfl)]
      refine ⟨rfl, formed_spec (n := l[i]) ?_⟩
      simp only [bin_eql, bin_neq, bin_lss, bin_leq, bin_gtr, bin_geq, bin_add, bin_sub, un_not, guard_or, guard_and, or_val, and_val, if_bool, conv_int, field_addr, len_sl, ex0, ex1, ex0', ex1', ex2', load_upd, List.getElem?_cons_zero, List.getElem?_cons_succ, Nat.add_zero, Nat.zero_add, List.all_cons, List.all_nil, bx_bool, bx_int, bx_agg, bx_sl, bx_ptr, bx_map, bx_str, bx_func, Bool.and_true, Bool.true_and, Bool.and_self, cond_true, cond_false ]
      refine or_op (b := tagsB l[i].op && !th l[i].to) (fun hf K hk => ?_) ?_
      · simp only [Nd.cells, bin_eql, bin_neq, bin_lss, bin_leq, bin_gtr, bin_geq, bin_add, bin_sub, un_not, guard_or, guard_and, or_val, and_val, if_bool, conv_int, field_addr, len_sl, ex0, ex1, ex0', ex1', ex2', load_upd, List.getElem?_cons_zero, List.getElem?_cons_succ, Nat.add_zero, Nat.zero_add, List.all_cons, List.all_nil, bx_bool, bx_int, bx_agg, bx_sl, bx_ptr, bx_map, bx_str, bx_func, Bool.and_true, Bool.true_and, Bool.and_self, cond_true, cond_false ]
        refine ⟨rfl, tags_spec ?_⟩
        simp only [bin_eql, bin_neq, bin_lss, bin_leq, bin_gtr, bin_geq, bin_add, bin_sub, un_not, guard_or, guard_and, or_val, and_val, if_bool, conv_int, field_addr, len_sl, ex0, ex1, ex0', ex1', ex2', load_upd, List.getElem?_cons_zero, List.getElem?_cons_succ, Nat.add_zero, Nat.zero_add, List.all_cons, List.all_nil, bx_bool, bx_int, bx_agg, bx_sl, bx_ptr, bx_map, bx_str, bx_func, Bool.and_true, Bool.true_and, Bool.and_self, cond_true, cond_false ]
        refine and_op (b := !th l[i].to) (fun ht K hk => ?_) hk
        have hf := formed_in (n := l[i]) (by simpa using hf)
        rw [index_arr hf.1 (by simpa using hf.2.1), load_upd_ne (Ne.symm hbb), load_cell (v := .bool (th l[i].to)) (by rw [cellAt_of hb']; simpa using bools_get hf.1 hf.2.1)]
        simp only [bin_eql, bin_neq, bin_lss, bin_leq, bin_gtr, bin_geq, bin_add, bin_sub, un_not, guard_or, guard_and, or_val, and_val, if_bool, conv_int, field_addr, len_sl, ex0, ex1, ex0', ex1', ex2', load_upd, List.getElem?_cons_zero, List.getElem?_cons_succ, Nat.add_zero, Nat.zero_add, List.all_cons, List.all_nil, bx_bool, bx_int, bx_agg, bx_sl, bx_ptr, bx_map, bx_str, bx_func, Bool.and_true, Bool.true_and, Bool.and_self, cond_true, cond_false ]
        exact hk
      simp only [bin_eql, bin_neq, bin_lss, bin_leq, bin_gtr, bin_geq, bin_add, bin_sub, un_not, guard_or, guard_and, or_val, and_val, if_bool, conv_int, field_addr, len_sl, ex0, ex1, ex0', ex1', ex2', load_upd, List.getElem?_cons_zero, List.getElem?_cons_succ, Nat.add_zero, Nat.zero_add, List.all_cons, List.all_nil, bx_bool, bx_int, bx_agg, bx_sl, bx_ptr, bx_map, bx_str, bx_func, Bool.and_true, Bool.true_and, Bool.and_self, cond_true, cond_false , Bool.or_eq_true, Bool.and_eq_true, decide_eq_true_eq, Bool.not_eq_true', decide_eq_false_iff_not ]
      split
      · rename_i hbad
        refine to_q (hq _ (h5 _)) ?_
        rw [hrun, goodRun_step hlt]
        rcases hbad with hbad | hbad <;> simp [hbad]
      rename_i hok
      have hfo : formedB l[i] = true := by
        cases hq : formedB l[i] <;> simp [hq] at hok ⊢
      have hf := formed_in hfo
      rw [load_aggU (by rfl)]
      refine ⟨rfl, reads_spec (n := l[i]) fun v46 h4 hs4 hl4 => ?_⟩
      refine ⟨trivial, rfl, ?_, contains_spec (p := fun t => !th t) hl4 rfl (by simp [rl]; split <;> split <;> split <;> simp) (fun a ha K hk => there_spec (th := th) (hs4 _ _ (by rw [upd_ne _ _ (Ne.symm hbb)]; exact hb')) (rl_in hfo a ha).1 (rl_in hfo a ha).2 hk) ?_⟩
      · have := hl4.box
        simp only [this, bin_eql, bin_neq, bin_lss, bin_leq, bin_gtr, bin_geq, bin_add, bin_sub, un_not, guard_or, guard_and, or_val, and_val, if_bool, conv_int, field_addr, len_sl, ex0, ex1, ex0', ex1', ex2', load_upd, List.getElem?_cons_zero, List.getElem?_cons_succ, Nat.add_zero, Nat.zero_add, List.all_cons, List.all_nil, bx_bool, bx_int, bx_agg, bx_sl, bx_ptr, bx_map, bx_str, bx_func, Bool.and_true, Bool.true_and, Bool.and_self, cond_true, cond_false ]
      simp only [bin_eql, bin_neq, bin_lss, bin_leq, bin_gtr, bin_geq, bin_add, bin_sub, un_not, guard_or, guard_and, or_val, and_val, if_bool, conv_int, field_addr, len_sl, ex0, ex1, ex0', ex1', ex2', load_upd, List.getElem?_cons_zero, List.getElem?_cons_succ, Nat.add_zero, Nat.zero_add, List.all_cons, List.all_nil, bx_bool, bx_int, bx_agg, bx_sl, bx_ptr, bx_map, bx_str, bx_func, Bool.and_true, Bool.true_and, Bool.and_self, cond_true, cond_false , Bool.or_eq_true, Bool.and_eq_true, decide_eq_true_eq, Bool.not_eq_true', decide_eq_false_iff_not ]
      have hb5' := hs4 b5 _ (upd_same _ _ _)
      split
      · rename_i hbad
        refine to_q (hq _ ((h5 _).trans hs4)) ?_
        rw [hrun, goodRun_step hlt, hbad]
        simp
      rename_i hok2
      rw [load_agg (l := l[i].cells) (by rw [cellsAt_of hb5' (by simp [Nd.cells])]; rfl)]
      refine ⟨rfl, writes_spec (n := l[i]) ?_⟩
      simp only [bin_eql, bin_neq, bin_lss, bin_leq, bin_gtr, bin_geq, bin_add, bin_sub, un_not, guard_or, guard_and, or_val, and_val, if_bool, conv_int, field_addr, len_sl, ex0, ex1, ex0', ex1', ex2', load_upd, List.getElem?_cons_zero, List.getElem?_cons_succ, Nat.add_zero, Nat.zero_add, List.all_cons, List.all_nil, bx_bool, bx_int, bx_agg, bx_sl, bx_ptr, bx_map, bx_str, bx_func, Bool.and_true, Bool.true_and, Bool.and_self, cond_true, cond_false ]
      have hstep : goodRun (l.drop i) th = goodRun (l.drop (i + 1)) (if writesB l[i].op then put th l[i].to true else th) := by
        rw [goodRun_step hlt, hfo]
        have e1 : (tagsB l[i].op && !th l[i].to) = false := by
          cases hq : (tagsB l[i].op && !th l[i].to)
          · rfl
          · exfalso; apply hok; right; simpa using hq
        have e2 : ((rl l[i]).any fun t => !th t) = false := by simpa using hok2
        rw [e1, e2]; rfl
      have hbh4 : h4 b = some (.cells (bools th) 92 .exact) := hs4 _ _ (by rw [upd_ne _ _ (Ne.symm hbb)]; exact hb')
      cases hw : writesB l[i].op with
      | true =>
        simp only [hw, if_true] at hstep ⊢
        rw [index_arr hf.1 (by simpa using hf.2.1), store_ok hbh4 (by simp) (by rfl) (by rfl) (by rw [bools_len]; omega)]
        simp only [F8_8, bin_eql, bin_neq, bin_lss, bin_leq, bin_gtr, bin_geq, bin_add, bin_sub, un_not, guard_or, guard_and, or_val, and_val, if_bool, conv_int, field_addr, len_sl, ex0, ex1, ex0', ex1', ex2', load_upd, List.getElem?_cons_zero, List.getElem?_cons_succ, Nat.add_zero, Nat.zero_add, List.all_cons, List.all_nil, bx_bool, bx_int, bx_agg, bx_sl, bx_ptr, bx_map, bx_str, bx_func, Bool.and_true, Bool.true_and, Bool.and_self, cond_true, cond_false ]
        refine ⟨l.length - (i + 1), by omega, i + 1, put th l[i].to true, ?_, ?_, ?_, rfl, by omega, by rw [hrun, hstep]⟩
        · rw [wrap64 (by omega) (by omega)]; rfl
        · exact ((h5 _).trans hs4).upd hb
        · rw [upd_same]
          have := bools_set (th := th) (b := true) hf.1 hf.2.1
          simp only [Nat.mul_one]
          rw [← this]; rfl
      | false =>
        simp only [hw, Bool.false_eq_true, if_false] at hstep ⊢
        simp only [F8_8, bin_eql, bin_neq, bin_lss, bin_leq, bin_gtr, bin_geq, bin_add, bin_sub, un_not, guard_or, guard_and, or_val, and_val, if_bool, conv_int, field_addr, len_sl, ex0, ex1, ex0', ex1', ex2', load_upd, List.getElem?_cons_zero, List.getElem?_cons_succ, Nat.add_zero, Nat.zero_add, List.all_cons, List.all_nil, bx_bool, bx_int, bx_agg, bx_sl, bx_ptr, bx_map, bx_str, bx_func, Bool.and_true, Bool.true_and, Bool.and_self, cond_true, cond_false ]
        refine ⟨l.length - (i + 1), by omega, i + 1, th, ?_, (h5 _).trans hs4, hbh4, rfl, by omega, by rw [hrun, hstep]⟩
        rw [wrap64 (by omega) (by omega)]; rfl
    · rename_i hge
      have hie : i = l.length := by omega
      subst hie
      rw [List.drop_length, goodRun] at hrun
      have hlast := lastOp_get hnil
      have hpos : 0 < l.length := by cases l <;> simp at hnil ⊢
      simp only [F8_9, hs'.len, bin_eql, bin_neq, bin_lss, bin_leq, bin_gtr, bin_geq, bin_add, bin_sub, un_not, guard_or, guard_and, or_val, and_val, if_bool, conv_int, field_addr, len_sl, ex0, ex1, ex0', ex1', ex2', load_upd, List.getElem?_cons_zero, List.getElem?_cons_succ, Nat.add_zero, Nat.zero_add, List.all_cons, List.all_nil, bx_bool, bx_int, bx_agg, bx_sl, bx_ptr, bx_map, bx_str, bx_func, Bool.and_true, Bool.true_and, Bool.and_self, cond_true, cond_false ]
      rw [wrap64 (by omega) (by omega)]
      have e : ((l.length : Int) - 1) = ((l.length - 1 : Nat) : Int) := by omega
      rw [e]
      refine node_field hs' (by omega) (j := 0) rfl ?_
      simp only [bin_eql, bin_neq, bin_lss, bin_leq, bin_gtr, bin_geq, bin_add, bin_sub, un_not, guard_or, guard_and, or_val, and_val, if_bool, conv_int, field_addr, len_sl, ex0, ex1, ex0', ex1', ex2', load_upd, List.getElem?_cons_zero, List.getElem?_cons_succ, Nat.add_zero, Nat.zero_add, List.all_cons, List.all_nil, bx_bool, bx_int, bx_agg, bx_sl, bx_ptr, bx_map, bx_str, bx_func, Bool.and_true, Bool.true_and, Bool.and_self, cond_true, cond_false ]
      refine to_q (hq _ hsub) ?_
      rw [hrun, hlast]; rfl
end Go.Proofs.YtcohcmlidmaaoaaGreat
