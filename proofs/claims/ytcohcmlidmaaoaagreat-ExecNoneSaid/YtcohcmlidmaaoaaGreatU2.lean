/-
  What is read of a node; whether a list may be.
-/
import Derived.Test.YtcohcmlidmaaoaaGreatU1
import Derived.Test.YtcohcmlidmaaoaaGreatM4
import Derived.KernelRfl
set_option linter.unusedSimpArgs false
set_option linter.unusedVariables false
set_option maxRecDepth 100000
namespace Go.Proofs.YtcohcmlidmaaoaaGreat
open AM
def encI (a : Int) : List Value := [.int .i64 a]
def rl (n : Nd) : List Int := (if (hasL n.op).2.1 then [n.a] else []) ++ (if (hasL n.op).2.2 then [n.b] else []) ++ (if n.op = 19 then [n.to] else [])
theorem lit37 (a : Int) : litCells Tryz.prog 31 1 [(0, .int .i64 a)] = some ([.int .i64 a], 3) := by kernel_rfl
theorem bs37 {a : Int} {h : H} {K : Value → H → Prop} : o_buildSlice Tryz.prog 31 1 [(0, .int .i64 a)] h K = o_new [.int .i64 a] 3 .exact h fun b h => K (.slice (some ⟨b, 0, none⟩) 1 1) h := by
  unfold o_buildSlice
  rw [lit37]
def StI (h0 : H) (b1 : Nat) (q : AObj) (h : H) (v : Value) (l : List Int) : Prop :=
  Gr encI 1 3 h0 h v l ∧ h b1 = some q ∧ Sub h0 h ∧ blockOf v ≠ some b1
theorem StI.push {h0 h : H} {b1 : Nat} {q : AObj} {v : Value} {l : List Int} {a : Int} {K : Value → H → Prop} (hs : StI h0 b1 q h v l) (hl : l.length ≤ 100) (hk : ∀ v' h', StI h0 b1 q h' v' (l ++ [a]) → K v' h') :
    o_buildSlice Tryz.prog 31 1 [(0, .int .i64 a)] h fun y h => o_append 3 1 8 v y h K := by
  obtain ⟨hg, hb1, hsub, hne⟩ := hs
  rw [bs37]
  intro b hb2 hb
  have hbb : b ≠ b1 := fun he => by rw [he, hb1] at hb; cases hb
  have hsub' : Sub h0 (upd h b (.cells [.int .i64 a] 3 .exact)) := hsub.upd (hsub.none hb)
  refine Gr.append (m := [a]) (h := upd h b (.cells [.int .i64 a] 3 .exact)) (hg.keep fun c hc => ?_) (Sl.of_block (b := b) (o := 0) (l := [a]) (c := 1) (fun _ _ => rfl) (upd_same _ _ _) rfl (by simp)) (by simp) (by omega) (by simp; omega) (by simp; omega) hsub' ?_
  · refine upd_ne _ _ fun he => ?_
    rw [he] at hc
    exact hg.there hc hb
  · intro v' h' h1 h2 h3 h4
    refine hk v' h' ⟨h1, h3 b1 q ?_ hne, h2, fun he => ?_⟩
    · rw [upd_ne _ _ (Ne.symm hbb)]; exact hb1
    · have := h4 _ he
      rw [upd_ne _ _ (Ne.symm hbb), hb1] at this
      cases this
theorem reads_specG {n : Nd} {h : H} {Q : Value → H → Prop} (hq : ∀ v h', Sub h h' → Gr encI 1 3 h h' v (rl n) → Q v h') : AM.Spec Tryz.prog 20 [n.val] h Q := by
  refine F20_spec _ _ _ ?_
  refine ⟨rfl, fun b hb2 hb => ?_⟩
  simp only [Nd.val, Value.cells, bin_eql, bin_neq, bin_lss, bin_leq, bin_gtr, bin_geq, bin_add, bin_sub, un_not, guard_or, guard_and, or_val, and_val, if_bool, conv_int, field_addr, len_sl, ex0, ex1, ex0', ex1', ex2', load_upd, List.getElem?_cons_zero, List.getElem?_cons_succ, Nat.add_zero, Nat.zero_add, List.all_cons, List.all_nil, bx_bool, bx_int, bx_agg, bx_sl, bx_ptr, bx_map, bx_str, bx_func, Bool.and_true, Bool.true_and, Bool.and_self, cond_true, cond_false ]
  refine ⟨rfl, has_spec ?_⟩
  simp only [bin_eql, bin_neq, bin_lss, bin_leq, bin_gtr, bin_geq, bin_add, bin_sub, un_not, guard_or, guard_and, or_val, and_val, if_bool, conv_int, field_addr, len_sl, ex0, ex1, ex0', ex1', ex2', load_upd, List.getElem?_cons_zero, List.getElem?_cons_succ, Nat.add_zero, Nat.zero_add, List.all_cons, List.all_nil, bx_bool, bx_int, bx_agg, bx_sl, bx_ptr, bx_map, bx_str, bx_func, Bool.and_true, Bool.true_and, Bool.and_self, cond_true, cond_false ]
  have s0 : StI h b (.cells n.cells 40 .exact) (upd h b (.cells n.cells 40 .exact)) (.slice none 0 0) [] := ⟨Gr.empty, upd_same _ _ _, Sub.new hb, by simp [blockOf]⟩
  have ld : ∀ {h' v l} (i : Nat) (x : Value) {K : Value → Prop}, StI h b (.cells n.cells 40 .exact) h' v l → n.cells[i]? = some x → K x → o_load false 1 (.pointer (some ⟨b, i, none⟩)) h' K := by
    intro h' v l i x K hs hx hk
    rw [load_cell (v := x) (by rw [cellAt_of hs.2.1]; exact hx)]; exact hk
  have e3 : ∀ {h' v l Kn}, StI h b (.cells n.cells 40 .exact) h' v l → l.length ≤ 2 → l ++ (if n.op = 19 then [n.to] else []) = rl n → F20_5 (.pointer (some ⟨b, 0, none⟩)) v h' Kn Q := by
    intro h' v l Kn hs hl he
    simp only [F20_5, F20_6, F20_7, bin_eql, bin_neq, bin_lss, bin_leq, bin_gtr, bin_geq, bin_add, bin_sub, un_not, guard_or, guard_and, or_val, and_val, if_bool, conv_int, field_addr, len_sl, ex0, ex1, ex0', ex1', ex2', load_upd, List.getElem?_cons_zero, List.getElem?_cons_succ, Nat.add_zero, Nat.zero_add, List.all_cons, List.all_nil, bx_bool, bx_int, bx_agg, bx_sl, bx_ptr, bx_map, bx_str, bx_func, Bool.and_true, Bool.true_and, Bool.and_self, cond_true, cond_false ]
    refine ld 0 (.int .i64 n.op) hs rfl ?_
    simp only [bin_eql, bin_neq, bin_lss, bin_leq, bin_gtr, bin_geq, bin_add, bin_sub, un_not, guard_or, guard_and, or_val, and_val, if_bool, conv_int, field_addr, len_sl, ex0, ex1, ex0', ex1', ex2', load_upd, List.getElem?_cons_zero, List.getElem?_cons_succ, Nat.add_zero, Nat.zero_add, List.all_cons, List.all_nil, bx_bool, bx_int, bx_agg, bx_sl, bx_ptr, bx_map, bx_str, bx_func, Bool.and_true, Bool.true_and, Bool.and_self, cond_true, cond_false , Bool.or_eq_true, Bool.and_eq_true, decide_eq_true_eq, Bool.not_eq_true', decide_eq_false_iff_not ]
    split
    · refine ld 1 (.int .i64 n.to) hs rfl ?_
      refine hs.push (by omega) fun v' h'' hs' => hq _ _ hs'.2.2.1 ?_
      have := hs'.1
      simp only [*, if_true] at he
      rw [← he]; exact this
    · simp only [*, if_false, List.append_nil] at he
      exact hq _ _ hs.2.2.1 (he ▸ hs.1)
  have e2 : ∀ {h' v l Kn}, StI h b (.cells n.cells 40 .exact) h' v l → l.length ≤ 1 → l ++ (if (hasL n.op).2.2 = true then [n.b] else []) ++ (if n.op = 19 then [n.to] else []) = rl n → F20_3 (.pointer (some ⟨b, 0, none⟩)) (.bool (hasL n.op).2.2) v h' Kn Q := by
    intro h' v l Kn hs hl he
    simp only [F20_3, F20_4, bin_eql, bin_neq, bin_lss, bin_leq, bin_gtr, bin_geq, bin_add, bin_sub, un_not, guard_or, guard_and, or_val, and_val, if_bool, conv_int, field_addr, len_sl, ex0, ex1, ex0', ex1', ex2', load_upd, List.getElem?_cons_zero, List.getElem?_cons_succ, Nat.add_zero, Nat.zero_add, List.all_cons, List.all_nil, bx_bool, bx_int, bx_agg, bx_sl, bx_ptr, bx_map, bx_str, bx_func, Bool.and_true, Bool.true_and, Bool.and_self, cond_true, cond_false ]
    split
    · refine ld 3 (.int .i64 n.b) hs rfl ?_
      refine hs.push (by omega) fun v' h'' hs' => e3 hs' (by simp; omega) ?_
      simpa only [*, if_true] using he
    · refine e3 hs (by omega) ?_
      rw [if_neg ‹_›, List.append_nil] at he
      exact he
  simp only [F20_1, F20_2, bin_eql, bin_neq, bin_lss, bin_leq, bin_gtr, bin_geq, bin_add, bin_sub, un_not, guard_or, guard_and, or_val, and_val, if_bool, conv_int, field_addr, len_sl, ex0, ex1, ex0', ex1', ex2', load_upd, List.getElem?_cons_zero, List.getElem?_cons_succ, Nat.add_zero, Nat.zero_add, List.all_cons, List.all_nil, bx_bool, bx_int, bx_agg, bx_sl, bx_ptr, bx_map, bx_str, bx_func, Bool.and_true, Bool.true_and, Bool.and_self, cond_true, cond_false ]
  split
  · refine s0.push (by simp) fun v' h'' hs' => e2 hs' (by simp) ?_
    simp [rl, *]
  · refine e2 s0 (by simp) ?_
    simp [rl, *]
theorem reads_spec {n : Nd} {h : H} {Q : Value → H → Prop} (hq : ∀ v h', Sub h h' → Sl encI 1 h' v (rl n) → Q v h') : AM.Spec Tryz.prog 20 [n.val] h Q :=
  reads_specG fun v h' a b => hq v h' a b.sl
def idx (p : Int → Bool) : List Int → Nat → Int
  | [], _ => -1
  | a :: l, i => if p a = true then (i : Int) else idx p l (i + 1)
theorem index_spec {v fv : Value} {l : List Int} {p : Int → Bool} {h : H} {Q : Value → H → Prop} (hs : Sl encI 1 h v l) (hl : l.length < 9223372036854775807) (hp : ∀ a ∈ l, ∀ K : Value → H → Prop, K (.bool (p a)) h → o_dyn Tryz.prog fv [.int .i64 a] h K)
    (hq : Q (.int .i64 (idx p l 0)) h) : AM.Spec Tryz.prog 58 [v, fv] h Q := by
  refine F58_spec _ _ _ _ ?_
  simp only [F58, F58_0, F58_1, F58_2, F58_3, F58_4, F58_6, hs.len]
  refine ⟨fun n s h' => ∃ i : Nat, s = (v, fv, .int .i64 l.length, .int .i64 i) ∧ h' = h ∧ n = l.length - i ∧ i ≤ l.length ∧ idx p l 0 = idx p (l.drop i) i, ⟨_, 0, rfl, rfl, by rfl, by omega, by simp⟩, ?_⟩
  rintro n s h' ⟨i, rfl, rfl, rfl, hi, hx⟩
  simp only [F58_5, bin_eql, bin_neq, bin_lss, bin_leq, bin_gtr, bin_geq, bin_add, bin_sub, un_not, guard_or, guard_and, or_val, and_val, if_bool, conv_int, field_addr, len_sl, ex0, ex1, ex0', ex1', ex2', load_upd, List.getElem?_cons_zero, List.getElem?_cons_succ, Nat.add_zero, Nat.zero_add, List.all_cons, List.all_nil, bx_bool, bx_int, bx_agg, bx_sl, bx_ptr, bx_map, bx_str, bx_func, Bool.and_true, Bool.true_and, Bool.and_self, cond_true, cond_false , Bool.or_eq_true, Bool.and_eq_true, decide_eq_true_eq, Bool.not_eq_true', decide_eq_false_iff_not ]
  split
  · rename_i hlt
    have hlt : i < l.length := by omega
    obtain ⟨b, o, h1, h2⟩ := hs.at hlt
    rw [h1]
    rw [load_cell (v := .int .i64 l[i]) (by have := cellAt_part h2 (m := 0) (by omega); simpa [encI] using this)]
    refine hp _ (List.getElem_mem hlt) _ ?_
    have hd : l.drop i = l[i] :: l.drop (i + 1) := by simp
    rw [hd, idx] at hx
    simp only [bin_eql, bin_neq, bin_lss, bin_leq, bin_gtr, bin_geq, bin_add, bin_sub, un_not, guard_or, guard_and, or_val, and_val, if_bool, conv_int, field_addr, len_sl, ex0, ex1, ex0', ex1', ex2', load_upd, List.getElem?_cons_zero, List.getElem?_cons_succ, Nat.add_zero, Nat.zero_add, List.all_cons, List.all_nil, bx_bool, bx_int, bx_agg, bx_sl, bx_ptr, bx_map, bx_str, bx_func, Bool.and_true, Bool.true_and, Bool.and_self, cond_true, cond_false , Bool.or_eq_true, Bool.and_eq_true, decide_eq_true_eq, Bool.not_eq_true', decide_eq_false_iff_not ]
    split
    · rw [if_pos ‹_›] at hx
      rw [hx] at hq; exact hq
    · rw [if_neg ‹_›] at hx
      refine ⟨l.length - (i + 1), by omega, i + 1, ?_, trivial, rfl, by omega, hx⟩
      rw [wrap64 (by omega) (by omega)]
      rfl
  · rename_i hlt
    have : i = l.length := by omega
    subst this
    rw [List.drop_length, idx] at hx
    rw [hx] at hq; exact hq
theorem idx_any {p : Int → Bool} : ∀ (l : List Int) (i : Nat), decide (0 ≤ idx p l i) = l.any p
  | [], _ => rfl
  | a :: l, i => by
    rw [idx]
    cases hp : p a
    · simp [hp, idx_any l (i + 1)]
    · simp [hp]
theorem contains_spec {v fv : Value} {l : List Int} {p : Int → Bool} {h : H} {Q : Value → H → Prop} (hs : Sl encI 1 h v l) (hfv : boxV fv = true) (hl : l.length < 9223372036854775807) (hp : ∀ a ∈ l, ∀ K : Value → H → Prop, K (.bool (p a)) h → o_dyn Tryz.prog fv [.int .i64 a] h K)
    (hq : Q (.bool (l.any p)) h) : AM.Spec Tryz.prog 19 [v, fv] h Q := by
  refine F19_spec _ _ _ _ ?_
  simp only [F19, F19_0]
  refine ⟨by simp [hs.box, hfv], index_spec hs hl hp ?_⟩
  simp only [bin_eql, bin_neq, bin_lss, bin_leq, bin_gtr, bin_geq, bin_add, bin_sub, un_not, guard_or, guard_and, or_val, and_val, if_bool, conv_int, field_addr, len_sl, ex0, ex1, ex0', ex1', ex2', load_upd, List.getElem?_cons_zero, List.getElem?_cons_succ, Nat.add_zero, Nat.zero_add, List.all_cons, List.all_nil, bx_bool, bx_int, bx_agg, bx_sl, bx_ptr, bx_map, bx_str, bx_func, Bool.and_true, Bool.true_and, Bool.and_self, cond_true, cond_false ]
  rw [idx_any]; exact hq
end Go.Proofs.YtcohcmlidmaaoaaGreat
