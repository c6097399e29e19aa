/-
  The laws of fold, and of both, over the abstract memory: each returns true.
-/
import Derived.Test.YtpdleknbcgpemaaU12
set_option linter.unusedSimpArgs false
set_option linter.unusedVariables false
namespace Go.Proofs.Ytpdleknbcgpemaa
open AM

theorem foldL_v : ∀ (l : List Nd) (ps : KL), kin ps → kok ps → (∀ n ∈ l, inU n.v) → ∀ n ∈ foldL l ps, inU n.v
  | [], _, _, _, _, n, hn => by cases hn
  | m :: r, ps, hi, ho, hv, n, hn => by
    have hm := foldN_v hi (hv m (List.mem_cons_self ..))
    have hp := foldP_in hi ho hm
    rw [foldL] at hn
    rcases List.mem_cons.1 hn with rfl | hn
    · exact hm
    · exact foldL_v r _ hp.1 hp.2 (fun q hq => hv q (List.mem_cons_of_mem _ hq)) n hn
theorem makeF_v {l : List Nd} (hv : ∀ n ∈ l, inU n.v) : ∀ n ∈ makeF l, inU n.v := by
  unfold makeF
  split
  · exact foldL_v l [] (fun k v h => by cases h) List.Pairwise.nil hv
  · exact hv
theorem kept_sub : ∀ (l : List Nd), ∀ n ∈ kept l, n ∈ l
  | [], n, h => by cases h
  | m :: r, n, h => by
    rw [kept_cons] at h
    split at h
    · exact List.mem_cons_of_mem _ (kept_sub r n h)
    · rcases List.mem_cons.1 h with rfl | h
      · exact List.mem_cons_self ..
      · exact List.mem_cons_of_mem _ (kept_sub r n h)
theorem makeB_v {l : List Nd} (hv : ∀ n ∈ l, inU n.v) : ∀ n ∈ makeB l, inU n.v := by
  unfold makeB
  split
  · rw [dropRun_dr]; exact fun n hn => hv n (kept_sub l n hn)
  · exact hv

def aw23 : List Nd := [⟨8, 0, 0, 0, 0⟩, ⟨1, 0, 0, 0, 2⟩, ⟨1, 1, 0, 0, 3⟩, ⟨4, 2, 0, 1, 0⟩, ⟨3, 0, 2, 0, 5⟩, ⟨12, 0, 0, 0, 4⟩]
theorem aw23_lit : litCells Try.prog 22 6 [(0, Nd.val ⟨8, 0, 0, 0, 0⟩), (1, Nd.val ⟨1, 0, 0, 0, 2⟩), (2, Nd.val ⟨1, 1, 0, 0, 3⟩), (3, Nd.val ⟨4, 2, 0, 1, 0⟩), (4, Nd.val ⟨3, 0, 2, 0, 5⟩), (5, Nd.val ⟨12, 0, 0, 0, 4⟩)] = some (aw23.flatMap Nd.cells, 29) := by kernel_rfl
theorem aw23_v : ∀ n ∈ aw23, inU n.v := by
  intro n hn
  simp only [aw23, List.mem_cons, List.not_mem_nil, or_false] at hn
  rcases hn with rfl | rfl | rfl | rfl | rfl | rfl <;> simp [inU]
theorem aw23_good0 : goodB aw23 = true := by decide +kernel
theorem awake23_spec {h : H} {Q : Value → H → Prop} (hq : Q (.bool true) h) : AM.Spec Try.prog 13 [] h Q := by
  refine spec_ret (fun Q hq => ?_) hq
  refine F13_spec _ _ ?_
  simp only [F13, F13_0]
  have b1 : ∀ K : Value → Prop, o_build Try.prog 29 [(0, (.int .i64 8))] K = K (Nd.val ⟨8, 0, 0, 0, 0⟩) := fun K => by kernel_rfl
  have b2 : ∀ K : Value → Prop, o_build Try.prog 29 [(0, (.int .i64 1)), (4, (.int .u32 2))] K = K (Nd.val ⟨1, 0, 0, 0, 2⟩) := fun K => by kernel_rfl
  have b3 : ∀ K : Value → Prop, o_build Try.prog 29 [(0, (.int .i64 1)), (1, (.int .i64 1)), (4, (.int .u32 3))] K = K (Nd.val ⟨1, 1, 0, 0, 3⟩) := fun K => by kernel_rfl
  have b4 : ∀ K : Value → Prop, o_build Try.prog 29 [(0, (.int .i64 4)), (1, (.int .i64 2)), (3, (.int .i64 1))] K = K (Nd.val ⟨4, 2, 0, 1, 0⟩) := fun K => by kernel_rfl
  have b5 : ∀ K : Value → Prop, o_build Try.prog 29 [(0, (.int .i64 3)), (2, (.int .i64 2)), (4, (.int .u32 5))] K = K (Nd.val ⟨3, 0, 2, 0, 5⟩) := fun K => by kernel_rfl
  have b6 : ∀ K : Value → Prop, o_build Try.prog 29 [(0, (.int .i64 12)), (4, (.int .u32 4))] K = K (Nd.val ⟨12, 0, 0, 0, 4⟩) := fun K => by kernel_rfl
  rw [b1, b2, b3, b4, b5, b6]
  unfold o_buildSlice
  rw [aw23_lit]
  intro b hb2 hb
  have hs : Sl Nd.cells 5 (upd h b (.cells (aw23.flatMap Nd.cells) 29 .exact)) (.slice (some ⟨b, 0, none⟩) 6 6) aw23 :=
    Sl.of_block (b := b) (o := 0) (c := 6) (l := aw23) (nd_len _) (upd_same _ _ _) rfl (by decide)
  obtain ⟨l1, _, l3⟩ := makeF_law aw23_good0
  have l2 : (makeF aw23).length = 6 := by rw [makeF, if_pos aw23_good0, foldL_len]; rfl
  refine ⟨rfl, fold_spec hs (by decide) aw23_v fun v' h' hsub hs' => ?_⟩
  refine ⟨by simp [hs'.box], good_spec hs' (by rw [l2]; omega) ?_⟩
  rw [l1]
  simp only [bin_eql, bin_neq, bin_lss, bin_leq, bin_gtr, bin_geq, bin_add, bin_sub, un_not, guard_or, guard_and, or_val, and_val, if_bool, conv_int, field_addr, len_sl, ex0, ex1, ex0', ex1', ex2', load_upd, List.getElem?_cons_zero, List.getElem?_cons_succ, Nat.add_zero, Nat.zero_add, List.all_cons, List.all_nil, bx_bool, bx_int, bx_agg, bx_sl, bx_ptr, bx_map, bx_str, bx_func, Bool.and_true, Bool.true_and, Bool.and_self, cond_true, cond_false ]
  refine and_op (b := true) (fun _ K hk => ⟨by simp [hs'.box], cleanF_spec hs' (by rw [l2]; omega) (goodB_formed l1) (by rw [l3]; exact hk)⟩) ?_
  simp only [hs'.len, l2, bin_eql, bin_neq, bin_lss, bin_leq, bin_gtr, bin_geq, bin_add, bin_sub, un_not, guard_or, guard_and, or_val, and_val, if_bool, conv_int, field_addr, len_sl, ex0, ex1, ex0', ex1', ex2', load_upd, List.getElem?_cons_zero, List.getElem?_cons_succ, Nat.add_zero, Nat.zero_add, List.all_cons, List.all_nil, bx_bool, bx_int, bx_agg, bx_sl, bx_ptr, bx_map, bx_str, bx_func, Bool.and_true, Bool.true_and, Bool.and_self, cond_true, cond_false ]
  exact hq _ ((Sub.new hb).trans hsub)

theorem foldGood_am {v : Value} {l : List Nd} {h : H} {Q : Value → H → Prop} (hs : Sl Nd.cells 5 h v l) (hv : ∀ n ∈ l, inU n.v) (hq : ∀ h', Sub h h' → Q (.bool true) h') : AM.Spec Try.prog 5 [v] h Q := by
  refine F5_spec _ _ _ ?_
  simp only [F5, F5_0]
  refine ⟨rfl, awake23_spec ?_⟩
  simp only [hs.len, bin_eql, bin_neq, bin_lss, bin_leq, bin_gtr, bin_geq, bin_add, bin_sub, un_not, guard_or, guard_and, or_val, and_val, if_bool, conv_int, field_addr, len_sl, ex0, ex1, ex0', ex1', ex2', load_upd, List.getElem?_cons_zero, List.getElem?_cons_succ, Nat.add_zero, Nat.zero_add, List.all_cons, List.all_nil, bx_bool, bx_int, bx_agg, bx_sl, bx_ptr, bx_map, bx_str, bx_func, Bool.and_true, Bool.true_and, Bool.and_self, cond_true, cond_false , Bool.or_eq_true, Bool.and_eq_true, decide_eq_true_eq, Bool.not_eq_true', decide_eq_false_iff_not ]
  rw [if_neg (by simp)]
  split
  · exact hq _ (Sub.refl h)
  rename_i h80
  have h80 : l.length ≤ 80 := by omega
  refine clone_ok hs (by omega) fun v1 h1 hs1 hv1 => ?_
  refine ⟨by simp [hv1.box], fold_spec hv1 (by omega) hv fun v2 h2 hs2 hv2 => ?_⟩
  have hsub := hs1.trans hs2
  have hv := hs.mono hsub
  refine ⟨by simp [hv.box], good_spec hv (by omega) ?_⟩
  have hml : (makeF l).length ≤ l.length := by
    cases hg : goodB l
    · rw [makeF, if_neg (by rw [hg]; simp)]; exact Nat.le_refl _
    · exact (makeF_law hg).2.1
  simp only [bin_eql, bin_neq, bin_lss, bin_leq, bin_gtr, bin_geq, bin_add, bin_sub, un_not, guard_or, guard_and, or_val, and_val, if_bool, conv_int, field_addr, len_sl, ex0, ex1, ex0', ex1', ex2', load_upd, List.getElem?_cons_zero, List.getElem?_cons_succ, Nat.add_zero, Nat.zero_add, List.all_cons, List.all_nil, bx_bool, bx_int, bx_agg, bx_sl, bx_ptr, bx_map, bx_str, bx_func, Bool.and_true, Bool.true_and, Bool.and_self, cond_true, cond_false , Bool.or_eq_true, Bool.and_eq_true, decide_eq_true_eq, Bool.not_eq_true', decide_eq_false_iff_not ]
  split
  · rename_i hbad
    refine ⟨by simp [hv2.box, hv.box], equal23_spec hv2 hv (by omega) ?_⟩
    have : makeF l = l := by rw [makeF, if_neg (by rw [hbad]; simp)]
    rw [this]
    simp only [decide_true]
    exact hq _ hsub
  · rename_i hgood
    have hgood : goodB l = true := by simpa using hgood
    obtain ⟨l1, l2, l3⟩ := makeF_law hgood
    refine ⟨by simp [hv2.box], good_spec hv2 (by omega) ?_⟩
    rw [l1]
    simp only [hv2.len, hv.len, bin_eql, bin_neq, bin_lss, bin_leq, bin_gtr, bin_geq, bin_add, bin_sub, un_not, guard_or, guard_and, or_val, and_val, if_bool, conv_int, field_addr, len_sl, ex0, ex1, ex0', ex1', ex2', load_upd, List.getElem?_cons_zero, List.getElem?_cons_succ, Nat.add_zero, Nat.zero_add, List.all_cons, List.all_nil, bx_bool, bx_int, bx_agg, bx_sl, bx_ptr, bx_map, bx_str, bx_func, Bool.and_true, Bool.true_and, Bool.and_self, cond_true, cond_false ]
    have e : decide (((makeF l).length : Int) ≤ l.length) = true := by rw [decide_eq_true_eq]; omega
    rw [e]
    refine and_op (b := true) (fun _ K hk => ⟨by simp [hv2.box], cleanF_spec hv2 (by omega) (goodB_formed l1) (by rw [l3]; exact hk)⟩) ?_
    exact hq _ hsub
theorem foldTwice_am {v : Value} {l : List Nd} {h : H} {Q : Value → H → Prop} (hs : Sl Nd.cells 5 h v l) (hv : ∀ n ∈ l, inU n.v) (hq : ∀ h', Sub h h' → Q (.bool true) h') : AM.Spec Try.prog 6 [v] h Q := by
  refine F6_spec _ _ _ ?_
  simp only [F6, F6_0]
  refine ⟨rfl, awake23_spec ?_⟩
  simp only [hs.len, bin_eql, bin_neq, bin_lss, bin_leq, bin_gtr, bin_geq, bin_add, bin_sub, un_not, guard_or, guard_and, or_val, and_val, if_bool, conv_int, field_addr, len_sl, ex0, ex1, ex0', ex1', ex2', load_upd, List.getElem?_cons_zero, List.getElem?_cons_succ, Nat.add_zero, Nat.zero_add, List.all_cons, List.all_nil, bx_bool, bx_int, bx_agg, bx_sl, bx_ptr, bx_map, bx_str, bx_func, Bool.and_true, Bool.true_and, Bool.and_self, cond_true, cond_false , Bool.or_eq_true, Bool.and_eq_true, decide_eq_true_eq, Bool.not_eq_true', decide_eq_false_iff_not ]
  rw [if_neg (by simp)]
  refine or_op (b := !goodB l) (fun hf K hk => ⟨by simp [hs.box], good_spec hs (by have := of_decide_eq_false hf; omega) (by simp only [bin_eql, bin_neq, bin_lss, bin_leq, bin_gtr, bin_geq, bin_add, bin_sub, un_not, guard_or, guard_and, or_val, and_val, if_bool, conv_int, field_addr, len_sl, ex0, ex1, ex0', ex1', ex2', load_upd, List.getElem?_cons_zero, List.getElem?_cons_succ, Nat.add_zero, Nat.zero_add, List.all_cons, List.all_nil, bx_bool, bx_int, bx_agg, bx_sl, bx_ptr, bx_map, bx_str, bx_func, Bool.and_true, Bool.true_and, Bool.and_self, cond_true, cond_false ]; exact hk)⟩) ?_
  simp only [bin_eql, bin_neq, bin_lss, bin_leq, bin_gtr, bin_geq, bin_add, bin_sub, un_not, guard_or, guard_and, or_val, and_val, if_bool, conv_int, field_addr, len_sl, ex0, ex1, ex0', ex1', ex2', load_upd, List.getElem?_cons_zero, List.getElem?_cons_succ, Nat.add_zero, Nat.zero_add, List.all_cons, List.all_nil, bx_bool, bx_int, bx_agg, bx_sl, bx_ptr, bx_map, bx_str, bx_func, Bool.and_true, Bool.true_and, Bool.and_self, cond_true, cond_false , Bool.or_eq_true, Bool.and_eq_true, decide_eq_true_eq, Bool.not_eq_true', decide_eq_false_iff_not ]
  split
  · exact hq _ (Sub.refl h)
  rename_i hno
  have h80 : l.length ≤ 80 := by omega
  have hgood : goodB l = true := by
    cases hg : goodB l
    · exact absurd (.inr hg) hno
    · rfl
  obtain ⟨l1, l2, l3⟩ := makeF_law hgood
  obtain ⟨m1, m2, m3⟩ := makeF_law l1
  refine ⟨by simp [hs.box], fold_spec hs (by omega) hv fun v1 h1 hs1 hv1 => ?_⟩
  refine ⟨by simp [hv1.box], fold_spec hv1 (by omega) (makeF_v hv) fun v2 h2 hs2 hv2 => ?_⟩
  have hv1' := hv1.mono hs2
  simp only [hv2.len, hv1'.len, bin_eql, bin_neq, bin_lss, bin_leq, bin_gtr, bin_geq, bin_add, bin_sub, un_not, guard_or, guard_and, or_val, and_val, if_bool, conv_int, field_addr, len_sl, ex0, ex1, ex0', ex1', ex2', load_upd, List.getElem?_cons_zero, List.getElem?_cons_succ, Nat.add_zero, Nat.zero_add, List.all_cons, List.all_nil, bx_bool, bx_int, bx_agg, bx_sl, bx_ptr, bx_map, bx_str, bx_func, Bool.and_true, Bool.true_and, Bool.and_self, cond_true, cond_false ]
  have e : decide (((makeF (makeF l)).length : Int) ≤ (makeF l).length) = true := by rw [decide_eq_true_eq]; omega
  rw [e]
  refine and_op (b := true) (fun _ K hk => ⟨by simp [hv2.box], good_spec hv2 (by omega) (by rw [m1]; exact hk)⟩) ?_
  simp only [bin_eql, bin_neq, bin_lss, bin_leq, bin_gtr, bin_geq, bin_add, bin_sub, un_not, guard_or, guard_and, or_val, and_val, if_bool, conv_int, field_addr, len_sl, ex0, ex1, ex0', ex1', ex2', load_upd, List.getElem?_cons_zero, List.getElem?_cons_succ, Nat.add_zero, Nat.zero_add, List.all_cons, List.all_nil, bx_bool, bx_int, bx_agg, bx_sl, bx_ptr, bx_map, bx_str, bx_func, Bool.and_true, Bool.true_and, Bool.and_self, cond_true, cond_false ]
  refine and_op (b := true) (fun _ K hk => ⟨by simp [hv2.box], cleanF_spec hv2 (by omega) (goodB_formed m1) (by rw [m3]; exact hk)⟩) ?_
  exact hq _ (hs1.trans hs2)

theorem dropFolds_am {v : Value} {l : List Nd} {h : H} {Q : Value → H → Prop} (hs : Sl Nd.cells 5 h v l) (hv : ∀ n ∈ l, inU n.v) (hq : ∀ h', Sub h h' → Q (.bool true) h') : AM.Spec Try.prog 7 [v] h Q := by
  refine F7_spec _ _ _ ?_
  simp only [F7, F7_0]
  refine ⟨rfl, awake24_spec ?_⟩
  simp only [hs.len, bin_eql, bin_neq, bin_lss, bin_leq, bin_gtr, bin_geq, bin_add, bin_sub, un_not, guard_or, guard_and, or_val, and_val, if_bool, conv_int, field_addr, len_sl, ex0, ex1, ex0', ex1', ex2', load_upd, List.getElem?_cons_zero, List.getElem?_cons_succ, Nat.add_zero, Nat.zero_add, List.all_cons, List.all_nil, bx_bool, bx_int, bx_agg, bx_sl, bx_ptr, bx_map, bx_str, bx_func, Bool.and_true, Bool.true_and, Bool.and_self, cond_true, cond_false , Bool.or_eq_true, Bool.and_eq_true, decide_eq_true_eq, Bool.not_eq_true', decide_eq_false_iff_not ]
  rw [if_neg (by simp)]
  refine or_op (b := !goodB l) (fun hf K hk => ⟨by simp [hs.box], good_spec hs (by have := of_decide_eq_false hf; omega) (by simp only [bin_eql, bin_neq, bin_lss, bin_leq, bin_gtr, bin_geq, bin_add, bin_sub, un_not, guard_or, guard_and, or_val, and_val, if_bool, conv_int, field_addr, len_sl, ex0, ex1, ex0', ex1', ex2', load_upd, List.getElem?_cons_zero, List.getElem?_cons_succ, Nat.add_zero, Nat.zero_add, List.all_cons, List.all_nil, bx_bool, bx_int, bx_agg, bx_sl, bx_ptr, bx_map, bx_str, bx_func, Bool.and_true, Bool.true_and, Bool.and_self, cond_true, cond_false ]; exact hk)⟩) ?_
  simp only [bin_eql, bin_neq, bin_lss, bin_leq, bin_gtr, bin_geq, bin_add, bin_sub, un_not, guard_or, guard_and, or_val, and_val, if_bool, conv_int, field_addr, len_sl, ex0, ex1, ex0', ex1', ex2', load_upd, List.getElem?_cons_zero, List.getElem?_cons_succ, Nat.add_zero, Nat.zero_add, List.all_cons, List.all_nil, bx_bool, bx_int, bx_agg, bx_sl, bx_ptr, bx_map, bx_str, bx_func, Bool.and_true, Bool.true_and, Bool.and_self, cond_true, cond_false , Bool.or_eq_true, Bool.and_eq_true, decide_eq_true_eq, Bool.not_eq_true', decide_eq_false_iff_not ]
  split
  · exact hq _ (Sub.refl h)
  rename_i hno
  have h80 : l.length ≤ 80 := by omega
  have hgood : goodB l = true := by
    cases hg : goodB l
    · exact absurd (.inr hg) hno
    · rfl
  obtain ⟨a1, a2, _⟩ := makeF_law hgood
  obtain ⟨b1, b2, b3⟩ := makeB_law a1
  obtain ⟨c1, c2, _⟩ := makeF_law b1
  refine ⟨by simp [hs.box], fold_spec hs (by omega) hv fun va h1 hs1 hva => ?_⟩
  refine ⟨by simp [hva.box], make_spec hva (by omega) fun vb h2 hs2 hvb => ?_⟩
  refine ⟨by simp [hvb.box], fold_spec hvb (by omega) (makeB_v (makeF_v hv)) fun vc h3 hs3 hvc => ?_⟩
  have hva' := (hva.mono hs2).mono hs3
  have hvb' := hvb.mono hs3
  have hsub := (hs1.trans hs2).trans hs3
  have hs' := hs.mono hsub
  refine ⟨by simp [hvb'.box], good_spec hvb' (by omega) ?_⟩
  rw [b1]
  simp only [bin_eql, bin_neq, bin_lss, bin_leq, bin_gtr, bin_geq, bin_add, bin_sub, un_not, guard_or, guard_and, or_val, and_val, if_bool, conv_int, field_addr, len_sl, ex0, ex1, ex0', ex1', ex2', load_upd, List.getElem?_cons_zero, List.getElem?_cons_succ, Nat.add_zero, Nat.zero_add, List.all_cons, List.all_nil, bx_bool, bx_int, bx_agg, bx_sl, bx_ptr, bx_map, bx_str, bx_func, Bool.and_true, Bool.true_and, Bool.and_self, cond_true, cond_false ]
  refine and_op (b := true) (fun _ K hk => ⟨by simp [hvc.box], good_spec hvc (by omega) (by rw [c1]; exact hk)⟩) ?_
  simp only [hva'.len, hvb'.len, hvc.len, hs'.len, bin_eql, bin_neq, bin_lss, bin_leq, bin_gtr, bin_geq, bin_add, bin_sub, un_not, guard_or, guard_and, or_val, and_val, if_bool, conv_int, field_addr, len_sl, ex0, ex1, ex0', ex1', ex2', load_upd, List.getElem?_cons_zero, List.getElem?_cons_succ, Nat.add_zero, Nat.zero_add, List.all_cons, List.all_nil, bx_bool, bx_int, bx_agg, bx_sl, bx_ptr, bx_map, bx_str, bx_func, Bool.and_true, Bool.true_and, Bool.and_self, cond_true, cond_false ]
  have e1 : decide (((makeB (makeF l)).length : Int) ≤ (makeF l).length) = true := by rw [decide_eq_true_eq]; omega
  have e2 : decide (((makeF l).length : Int) ≤ l.length) = true := by rw [decide_eq_true_eq]; omega
  have e3 : decide (((makeF (makeB (makeF l))).length : Int) ≤ (makeB (makeF l)).length) = true := by rw [decide_eq_true_eq]; omega
  rw [e1, e2, e3]
  simp only [bin_eql, bin_neq, bin_lss, bin_leq, bin_gtr, bin_geq, bin_add, bin_sub, un_not, guard_or, guard_and, or_val, and_val, if_bool, conv_int, field_addr, len_sl, ex0, ex1, ex0', ex1', ex2', load_upd, List.getElem?_cons_zero, List.getElem?_cons_succ, Nat.add_zero, Nat.zero_add, List.all_cons, List.all_nil, bx_bool, bx_int, bx_agg, bx_sl, bx_ptr, bx_map, bx_str, bx_func, Bool.and_true, Bool.true_and, Bool.and_self, cond_true, cond_false ]
  refine and_op (b := true) (fun _ K hk => ⟨by simp [hvb'.box], clean_spec hvb' (by omega) (by rw [b3]; exact hk)⟩) ?_
  exact hq _ hsub
end Go.Proofs.Ytpdleknbcgpemaa
