/-
  The laws of drop over the abstract memory: each returns true.
-/
import Derived.Test.YtpdleknbcgpemaaV1
set_option linter.unusedSimpArgs false
set_option linter.unusedVariables false
namespace Go.Proofs.Ytpdleknbcgpemaa
open AM

def aw24 : List Nd := [⟨8, 0, 0, 0, 0⟩, ⟨1, 0, 0, 0, 2⟩, ⟨1, 1, 0, 0, 3⟩, ⟨3, 0, 1, 0, 5⟩, ⟨12, 0, 0, 0, 4⟩]
theorem aw24_lit : litCells Try.prog 22 5 [(0, Nd.val ⟨8, 0, 0, 0, 0⟩), (1, Nd.val ⟨1, 0, 0, 0, 2⟩), (2, Nd.val ⟨1, 1, 0, 0, 3⟩), (3, Nd.val ⟨3, 0, 1, 0, 5⟩), (4, Nd.val ⟨12, 0, 0, 0, 4⟩)] = some (aw24.flatMap Nd.cells, 29) := by kernel_rfl
theorem aw24_good : goodB (makeB aw24) = true := by decide +kernel
theorem aw24_clean : cleanB (makeB aw24) = true := by decide +kernel
theorem aw24_len : (makeB aw24).length = 4 := by decide +kernel
theorem awake24_spec {h : H} {Q : Value → H → Prop} (hq : Q (.bool true) h) : AM.Spec Try.prog 8 [] h Q := by
  refine spec_ret (fun Q hq => ?_) hq
  refine F8_spec _ _ ?_
  simp only [F8, F8_0]
  have b1 : ∀ K : Value → Prop, o_build Try.prog 29 [(0, (.int .i64 8))] K = K (Nd.val ⟨8, 0, 0, 0, 0⟩) := fun K => by kernel_rfl
  have b2 : ∀ K : Value → Prop, o_build Try.prog 29 [(0, (.int .i64 1)), (4, (.int .u32 2))] K = K (Nd.val ⟨1, 0, 0, 0, 2⟩) := fun K => by kernel_rfl
  have b3 : ∀ K : Value → Prop, o_build Try.prog 29 [(0, (.int .i64 1)), (1, (.int .i64 1)), (4, (.int .u32 3))] K = K (Nd.val ⟨1, 1, 0, 0, 3⟩) := fun K => by kernel_rfl
  have b4 : ∀ K : Value → Prop, o_build Try.prog 29 [(0, (.int .i64 3)), (2, (.int .i64 1)), (4, (.int .u32 5))] K = K (Nd.val ⟨3, 0, 1, 0, 5⟩) := fun K => by kernel_rfl
  have b5 : ∀ K : Value → Prop, o_build Try.prog 29 [(0, (.int .i64 12)), (4, (.int .u32 4))] K = K (Nd.val ⟨12, 0, 0, 0, 4⟩) := fun K => by kernel_rfl
  rw [b1, b2, b3, b4, b5]
  unfold o_buildSlice
  rw [aw24_lit]
  intro b hb2 hb
  have hs : Sl Nd.cells 5 (upd h b (.cells (aw24.flatMap Nd.cells) 29 .exact)) (.slice (some ⟨b, 0, none⟩) 5 5) aw24 :=
    Sl.of_block (b := b) (o := 0) (c := 5) (l := aw24) (nd_len _) (upd_same _ _ _) rfl (by decide)
  refine ⟨rfl, make_spec hs (by decide) fun v' h' hsub hs' => ?_⟩
  refine ⟨by simp [hs'.box], good_spec hs' (by rw [aw24_len]; omega) ?_⟩
  rw [aw24_good]
  simp only [bin_eql, bin_neq, bin_lss, bin_leq, bin_gtr, bin_geq, bin_add, bin_sub, un_not, guard_or, guard_and, or_val, and_val, if_bool, conv_int, field_addr, len_sl, ex0, ex1, ex0', ex1', ex2', load_upd, List.getElem?_cons_zero, List.getElem?_cons_succ, Nat.add_zero, Nat.zero_add, List.all_cons, List.all_nil, bx_bool, bx_int, bx_agg, bx_sl, bx_ptr, bx_map, bx_str, bx_func, Bool.and_true, Bool.true_and, Bool.and_self, cond_true, cond_false ]
  refine and_op (b := true) (fun _ K hk => ⟨by simp [hs'.box], clean_spec hs' (by rw [aw24_len]; omega) (by rw [aw24_clean]; exact hk)⟩) ?_
  simp only [hs'.len, aw24_len, bin_eql, bin_neq, bin_lss, bin_leq, bin_gtr, bin_geq, bin_add, bin_sub, un_not, guard_or, guard_and, or_val, and_val, if_bool, conv_int, field_addr, len_sl, ex0, ex1, ex0', ex1', ex2', load_upd, List.getElem?_cons_zero, List.getElem?_cons_succ, Nat.add_zero, Nat.zero_add, List.all_cons, List.all_nil, bx_bool, bx_int, bx_agg, bx_sl, bx_ptr, bx_map, bx_str, bx_func, Bool.and_true, Bool.true_and, Bool.and_self, cond_true, cond_false ]
  exact hq _ ((Sub.new hb).trans hsub)

theorem dropGood_am {v : Value} {l : List Nd} {h : H} {Q : Value → H → Prop} (hs : Sl Nd.cells 5 h v l) (hq : ∀ h', Sub h h' → Q (.bool true) h') : AM.Spec Try.prog 3 [v] h Q := by
  refine F3_spec _ _ _ ?_
  simp only [F3, F3_0]
  refine ⟨rfl, awake24_spec ?_⟩
  simp only [hs.len, bin_eql, bin_neq, bin_lss, bin_leq, bin_gtr, bin_geq, bin_add, bin_sub, un_not, guard_or, guard_and, or_val, and_val, if_bool, conv_int, field_addr, len_sl, ex0, ex1, ex0', ex1', ex2', load_upd, List.getElem?_cons_zero, List.getElem?_cons_succ, Nat.add_zero, Nat.zero_add, List.all_cons, List.all_nil, bx_bool, bx_int, bx_agg, bx_sl, bx_ptr, bx_map, bx_str, bx_func, Bool.and_true, Bool.true_and, Bool.and_self, cond_true, cond_false , Bool.or_eq_true, Bool.and_eq_true, decide_eq_true_eq, Bool.not_eq_true', decide_eq_false_iff_not ]
  rw [if_neg (by simp)]
  split
  · exact hq _ (Sub.refl h)
  rename_i h80
  have h80 : l.length ≤ 80 := by omega
  refine clone_ok hs (by omega) fun v1 h1 hs1 hv1 => ?_
  refine ⟨by simp [hv1.box], make_spec hv1 (by omega) fun v2 h2 hs2 hv2 => ?_⟩
  have hsub := hs1.trans hs2
  have hv := hs.mono hsub
  refine ⟨by simp [hv.box], good_spec hv (by omega) ?_⟩
  have hml : (makeB l).length ≤ l.length := by
    cases hg : goodB l
    · rw [makeB, if_neg (by rw [hg]; simp)]; exact Nat.le_refl _
    · exact (makeB_law hg).2.1
  simp only [bin_eql, bin_neq, bin_lss, bin_leq, bin_gtr, bin_geq, bin_add, bin_sub, un_not, guard_or, guard_and, or_val, and_val, if_bool, conv_int, field_addr, len_sl, ex0, ex1, ex0', ex1', ex2', load_upd, List.getElem?_cons_zero, List.getElem?_cons_succ, Nat.add_zero, Nat.zero_add, List.all_cons, List.all_nil, bx_bool, bx_int, bx_agg, bx_sl, bx_ptr, bx_map, bx_str, bx_func, Bool.and_true, Bool.true_and, Bool.and_self, cond_true, cond_false , Bool.or_eq_true, Bool.and_eq_true, decide_eq_true_eq, Bool.not_eq_true', decide_eq_false_iff_not ]
  split
  · rename_i hbad
    refine ⟨by simp [hv2.box, hv.box], equal_spec hv2 hv (by omega) ?_⟩
    have : makeB l = l := by rw [makeB, if_neg (by rw [hbad]; simp)]
    rw [this]
    simp only [decide_true]
    exact hq _ hsub
  · rename_i hgood
    have hgood : goodB l = true := by simpa using hgood
    obtain ⟨l1, l2, l3⟩ := makeB_law hgood
    refine ⟨by simp [hv2.box], good_spec hv2 (by omega) ?_⟩
    rw [l1]
    simp only [hv2.len, hv.len, bin_eql, bin_neq, bin_lss, bin_leq, bin_gtr, bin_geq, bin_add, bin_sub, un_not, guard_or, guard_and, or_val, and_val, if_bool, conv_int, field_addr, len_sl, ex0, ex1, ex0', ex1', ex2', load_upd, List.getElem?_cons_zero, List.getElem?_cons_succ, Nat.add_zero, Nat.zero_add, List.all_cons, List.all_nil, bx_bool, bx_int, bx_agg, bx_sl, bx_ptr, bx_map, bx_str, bx_func, Bool.and_true, Bool.true_and, Bool.and_self, cond_true, cond_false ]
    have e : decide (((makeB l).length : Int) ≤ l.length) = true := by rw [decide_eq_true_eq]; omega
    rw [e]
    refine and_op (b := true) (fun _ K hk => ⟨by simp [hv2.box], clean_spec hv2 (by omega) (by rw [l3]; exact hk)⟩) ?_
    exact hq _ hsub
theorem dropTwice_am {v : Value} {l : List Nd} {h : H} {Q : Value → H → Prop} (hs : Sl Nd.cells 5 h v l) (hq : ∀ h', Sub h h' → Q (.bool true) h') : AM.Spec Try.prog 4 [v] h Q := by
  refine F4_spec _ _ _ ?_
  simp only [F4, F4_0]
  refine ⟨rfl, awake24_spec ?_⟩
  simp only [hs.len, bin_eql, bin_neq, bin_lss, bin_leq, bin_gtr, bin_geq, bin_add, bin_sub, un_not, guard_or, guard_and, or_val, and_val, if_bool, conv_int, field_addr, len_sl, ex0, ex1, ex0', ex1', ex2', load_upd, List.getElem?_cons_zero, List.getElem?_cons_succ, Nat.add_zero, Nat.zero_add, List.all_cons, List.all_nil, bx_bool, bx_int, bx_agg, bx_sl, bx_ptr, bx_map, bx_str, bx_func, Bool.and_true, Bool.true_and, Bool.and_self, cond_true, cond_false , Bool.or_eq_true, Bool.and_eq_true, decide_eq_true_eq, Bool.not_eq_true', decide_eq_false_iff_not ]
  rw [if_neg (by simp)]
  refine or_op (b := !goodB l) (fun hf K hk => ⟨by simp [hs.box], good_spec hs (by have := of_decide_eq_false hf; omega) (by simp only [bin_eql, bin_neq, bin_lss, bin_leq, bin_gtr, bin_geq, bin_add, bin_sub, un_not, guard_or, guard_and, or_val, and_val, if_bool, conv_int, field_addr, len_sl, ex0, ex1, ex0', ex1', ex2', load_upd, List.getElem?_cons_zero, List.getElem?_cons_succ, Nat.add_zero, Nat.zero_add, List.all_cons, List.all_nil, bx_bool, bx_int, bx_agg, bx_sl, bx_ptr, bx_map, bx_str, bx_func, Bool.and_true, Bool.true_and, Bool.and_self, cond_true, cond_false ]; exact hk)⟩) ?_
  simp only [bin_eql, bin_neq, bin_lss, bin_leq, bin_gtr, bin_geq, bin_add, bin_sub, un_not, guard_or, guard_and, or_val, and_val, if_bool, conv_int, field_addr, len_sl, ex0, ex1, ex0', ex1', ex2', load_upd, List.getElem?_cons_zero, List.getElem?_cons_succ, Nat.add_zero, Nat.zero_add, List.all_cons, List.all_nil, bx_bool, bx_int, bx_agg, bx_sl, bx_ptr, bx_map, bx_str, bx_func, Bool.and_true, Bool.true_and, Bool.and_self, cond_true, cond_false , Bool.or_eq_true, Bool.and_eq_true, decide_eq_true_eq, Bool.not_eq_true', decide_eq_false_iff_not ]
  split
  · exact hq _ (Sub.refl h)
  rename_i hno
  have h80 : l.length ≤ 80 := by omega
  have hgood : goodB l = true := by
    cases hg : goodB l
    · exact absurd (.inr hg) hno
    · rfl
  obtain ⟨l1, l2, l3⟩ := makeB_law hgood
  obtain ⟨m1, m2, m3⟩ := makeB_law l1
  refine ⟨by simp [hs.box], make_spec hs (by omega) fun v1 h1 hs1 hv1 => ?_⟩
  refine ⟨by simp [hv1.box], make_spec hv1 (by omega) fun v2 h2 hs2 hv2 => ?_⟩
  have hv1' := hv1.mono hs2
  simp only [hv2.len, hv1'.len, bin_eql, bin_neq, bin_lss, bin_leq, bin_gtr, bin_geq, bin_add, bin_sub, un_not, guard_or, guard_and, or_val, and_val, if_bool, conv_int, field_addr, len_sl, ex0, ex1, ex0', ex1', ex2', load_upd, List.getElem?_cons_zero, List.getElem?_cons_succ, Nat.add_zero, Nat.zero_add, List.all_cons, List.all_nil, bx_bool, bx_int, bx_agg, bx_sl, bx_ptr, bx_map, bx_str, bx_func, Bool.and_true, Bool.true_and, Bool.and_self, cond_true, cond_false ]
  have e : decide (((makeB (makeB l)).length : Int) ≤ (makeB l).length) = true := by rw [decide_eq_true_eq]; omega
  rw [e]
  refine and_op (b := true) (fun _ K hk => ⟨by simp [hv2.box], good_spec hv2 (by omega) (by rw [m1]; exact hk)⟩) ?_
  simp only [bin_eql, bin_neq, bin_lss, bin_leq, bin_gtr, bin_geq, bin_add, bin_sub, un_not, guard_or, guard_and, or_val, and_val, if_bool, conv_int, field_addr, len_sl, ex0, ex1, ex0', ex1', ex2', load_upd, List.getElem?_cons_zero, List.getElem?_cons_succ, Nat.add_zero, Nat.zero_add, List.all_cons, List.all_nil, bx_bool, bx_int, bx_agg, bx_sl, bx_ptr, bx_map, bx_str, bx_func, Bool.and_true, Bool.true_and, Bool.and_self, cond_true, cond_false ]
  refine and_op (b := true) (fun _ K hk => ⟨by simp [hv2.box], clean_spec hv2 (by omega) (by rw [m3]; exact hk)⟩) ?_
  exact hq _ (hs1.trans hs2)
end Go.Proofs.Ytpdleknbcgpemaa
