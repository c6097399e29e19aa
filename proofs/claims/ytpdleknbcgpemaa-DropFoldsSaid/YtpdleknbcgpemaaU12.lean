/-
  The laws of fold: the plain law, and the laws over the abstract memory.
-/
import Derived.Test.YtpdleknbcgpemaaU11
import Derived.Test.YtpdleknbcgpemaaU7
set_option linter.unusedSimpArgs false
set_option linter.unusedVariables false
namespace Go.Proofs.Ytpdleknbcgpemaa
open AM

theorem equal23_spec {v u : Value} {l m : List Nd} {h : H} {Q : Value → H → Prop} (hv : Sl Nd.cells 5 h v l) (hu : Sl Nd.cells 5 h u m) (hl : l.length < 9223372036854775807) (hq : Q (.bool (decide (l = m))) h) : AM.Spec Try.prog 15 [v, u] h Q := by
  refine F15_spec _ _ _ _ ?_
  simp only [F15, F15_0, hv.len, hu.len, bin_eql, bin_neq, bin_lss, bin_leq, bin_gtr, bin_geq, bin_add, bin_sub, un_not, guard_or, guard_and, or_val, and_val, if_bool, conv_int, field_addr, len_sl, ex0, ex1, ex0', ex1', ex2', load_upd, List.getElem?_cons_zero, List.getElem?_cons_succ, Nat.add_zero, Nat.zero_add, List.all_cons, List.all_nil, bx_bool, bx_int, bx_agg, bx_sl, bx_ptr, bx_map, bx_str, bx_func, Bool.and_true, Bool.true_and, Bool.and_self, cond_true, cond_false , Bool.or_eq_true, Bool.and_eq_true, decide_eq_true_eq, Bool.not_eq_true', decide_eq_false_iff_not ]
  by_cases hlen : l.length = m.length
  · rw [if_neg (by simp [hlen])]
    simp only [F15_1, F15_2, F15_3, F15_4]
    refine ⟨fun n s h' => ∃ i : Nat, s = (v, u, .int .i64 i) ∧ h' = h ∧ n = l.length - i ∧ i ≤ l.length ∧ l.take i = m.take i, ⟨_, 0, rfl, rfl, rfl, by omega, rfl⟩, ?_⟩
    rintro n s h' ⟨i, rfl, rfl, rfl, hi, hx⟩
    simp only [F15_5, hv.len, bin_eql, bin_neq, bin_lss, bin_leq, bin_gtr, bin_geq, bin_add, bin_sub, un_not, guard_or, guard_and, or_val, and_val, if_bool, conv_int, field_addr, len_sl, ex0, ex1, ex0', ex1', ex2', load_upd, List.getElem?_cons_zero, List.getElem?_cons_succ, Nat.add_zero, Nat.zero_add, List.all_cons, List.all_nil, bx_bool, bx_int, bx_agg, bx_sl, bx_ptr, bx_map, bx_str, bx_func, Bool.and_true, Bool.true_and, Bool.and_self, cond_true, cond_false , Bool.or_eq_true, Bool.and_eq_true, decide_eq_true_eq, Bool.not_eq_true', decide_eq_false_iff_not ]
    split
    · rename_i hlt
      have hlt : i < l.length := by omega
      have hlm : i < m.length := by omega
      simp only [F15_6, F15_7, F15_8, F15_9]
      refine node_load hv hlt ?_
      refine node_load hu hlm ?_
      rw [nd_neq]
      simp only [F15_10, F15_11, bin_eql, bin_neq, bin_lss, bin_leq, bin_gtr, bin_geq, bin_add, bin_sub, un_not, guard_or, guard_and, or_val, and_val, if_bool, conv_int, field_addr, len_sl, ex0, ex1, ex0', ex1', ex2', load_upd, List.getElem?_cons_zero, List.getElem?_cons_succ, Nat.add_zero, Nat.zero_add, List.all_cons, List.all_nil, bx_bool, bx_int, bx_agg, bx_sl, bx_ptr, bx_map, bx_str, bx_func, Bool.and_true, Bool.true_and, Bool.and_self, cond_true, cond_false , Bool.or_eq_true, Bool.and_eq_true, decide_eq_true_eq, Bool.not_eq_true', decide_eq_false_iff_not ]
      split
      · rename_i hne
        refine to_q hq ?_
        have : l ≠ m := fun he => by subst he; exact hne rfl
        simp [this]
      · rename_i heq
        have heq : l[i] = m[i] := by simpa using heq
        refine ⟨l.length - (i + 1), by omega, i + 1, ?_, trivial, rfl, by omega, ?_⟩
        · rw [wrap64 (by omega) (by omega)]; rfl
        · rw [List.take_add_one, List.take_add_one, hx]
          simp [hlt, hlm, heq]
    · rename_i hge
      have : i = l.length := by omega
      subst this
      rw [List.take_length, hlen, List.take_length] at hx
      simp only [F15_12]
      exact to_q hq (by simp [hx])
  · rw [if_pos (by simpa using fun h => hlen (by omega))]
    refine to_q hq ?_
    have : l ≠ m := fun he => hlen (by rw [he])
    simp [this]


def reck (op : Int) : Bool := decide (op = 4) || decide (op = 5)
def cleanF : List Nd → (Int → Bool) → Bool
  | [], _ => true
  | n :: r, kn => if (reck n.op && kn n.a && kn n.b) = true then false else cleanF r (if writesB n.op = true then put kn n.to (decide (n.op = 1)) else kn)
theorem cleanF_spec {v : Value} {l : List Nd} {h0 : H} {Q : Value → H → Prop} (hv : Sl Nd.cells 5 h0 v l) (hl : l.length < 9223372036854775807) (hf : ∀ n ∈ l, formedB n = true) (hq : Q (.bool (cleanF l fun _ => false)) h0) : AM.Spec Try.prog 16 [v] h0 Q := by
  refine spec_ret (fun Q hq => ?_) hq
  refine F16_spec _ _ _ ?_
  simp only [F16, F16_0]
  intro b hb2 hb
  rw [bools_none]
  simp only [F16_1, F16_2, F16_3, F16_4]
  refine ⟨fun m s h' => ∃ (i : Nat) (kn : Int → Bool), s = (v, .pointer (some ⟨b, 0, none⟩), .int .i64 i) ∧ m = l.length - i ∧ i ≤ l.length ∧ cleanF l (fun _ => false) = cleanF (l.drop i) kn ∧ h' b = some (.cells (bools kn) 30 .exact) ∧ Sub h0 h',
    ⟨_, 0, _, rfl, rfl, by omega, rfl, upd_same _ _ _, Sub.new hb⟩, ?_⟩
  rintro m s h' ⟨i, kn, rfl, rfl, hi, hx, hbk, hsub⟩
  have hv' := hv.mono hsub
  simp only [F16_5, hv'.len, bin_eql, bin_neq, bin_lss, bin_leq, bin_gtr, bin_geq, bin_add, bin_sub, un_not, guard_or, guard_and, or_val, and_val, if_bool, conv_int, field_addr, len_sl, ex0, ex1, ex0', ex1', ex2', load_upd, List.getElem?_cons_zero, List.getElem?_cons_succ, Nat.add_zero, Nat.zero_add, List.all_cons, List.all_nil, bx_bool, bx_int, bx_agg, bx_sl, bx_ptr, bx_map, bx_str, bx_func, Bool.and_true, Bool.true_and, Bool.and_self, cond_true, cond_false , Bool.or_eq_true, Bool.and_eq_true, decide_eq_true_eq, Bool.not_eq_true', decide_eq_false_iff_not ]
  split
  · rename_i hlt
    have hlt : i < l.length := by omega
    have hd : cleanF (l.drop i) kn = if (reck l[i].op && kn l[i].a && kn l[i].b) = true then false else cleanF (l.drop (i + 1)) (if writesB l[i].op = true then put kn l[i].to (decide (l[i].op = 1)) else kn) := by
      rw [List.drop_eq_getElem_cons hlt, cleanF]
    unfold reck at hd
    rw [hd] at hx
    have hin := formed_in (hf _ (List.getElem_mem hlt))
    simp only [F16_6, F16_7]
    refine node_load hv' hlt ?_
    intro b5 hb52 hb5
    have hbb : b5 ≠ b := fun he => by rw [he, hbk] at hb5; cases hb5
    rw [store_nd]
    have hb' : upd h' b5 (.cells l[i].cells 29 .exact) b = some (.cells (bools kn) 30 .exact) := by rw [upd_ne _ _ hbb.symm]; exact hbk
    have h5 : upd h' b5 (.cells l[i].cells 29 .exact) b5 = some (.cells l[i].cells 29 .exact) := upd_same _ _ _
    have hs5 : Sub h0 (upd h' b5 (.cells l[i].cells 29 .exact)) := hsub.upd (hsub.none hb5)
    generalize upd h' b5 (.cells l[i].cells 29 .exact) = h2 at *
    have ld5 : ∀ (j : Nat) (x : Value) {K : Value → Prop}, l[i].cells[j]? = some x → K x → o_load false 1 (.pointer (some ⟨b5, j, none⟩)) h2 K := by
      intro j x K hx hk
      rw [load_cell (v := x) (by rw [cellAt_of h5]; exact hx)]; exact hk
    have ldk : ∀ (t : Int) {K : Value → Prop}, 0 ≤ t → t < 256 → K (.bool (kn t)) → (o_indexAddr (some 256) 1 (.pointer (some ⟨b, 0, none⟩)) (.int .i64 t) fun p => o_load false 1 p h2 K) := by
      intro t K t0 t1 hk
      rw [index_arr t0 (by simpa using t1), load_cell (v := .bool (kn t)) (by rw [cellAt_of hb']; simpa using bools_get t0 t1)]; exact hk
    simp only [bin_eql, bin_neq, bin_lss, bin_leq, bin_gtr, bin_geq, bin_add, bin_sub, un_not, guard_or, guard_and, or_val, and_val, if_bool, conv_int, field_addr, len_sl, ex0, ex1, ex0', ex1', ex2', load_upd, List.getElem?_cons_zero, List.getElem?_cons_succ, Nat.add_zero, Nat.zero_add, List.all_cons, List.all_nil, bx_bool, bx_int, bx_agg, bx_sl, bx_ptr, bx_map, bx_str, bx_func, Bool.and_true, Bool.true_and, Bool.and_self, cond_true, cond_false ]
    refine ld5 0 (.int .i64 l[i].op) rfl ?_
    simp only [bin_eql, bin_neq, bin_lss, bin_leq, bin_gtr, bin_geq, bin_add, bin_sub, un_not, guard_or, guard_and, or_val, and_val, if_bool, conv_int, field_addr, len_sl, ex0, ex1, ex0', ex1', ex2', load_upd, List.getElem?_cons_zero, List.getElem?_cons_succ, Nat.add_zero, Nat.zero_add, List.all_cons, List.all_nil, bx_bool, bx_int, bx_agg, bx_sl, bx_ptr, bx_map, bx_str, bx_func, Bool.and_true, Bool.true_and, Bool.and_self, cond_true, cond_false ]
    refine or_op (b := decide (l[i].op = 5)) (fun _ K hk => ld5 0 (.int .i64 l[i].op) rfl (by simp only [bin_eql, bin_neq, bin_lss, bin_leq, bin_gtr, bin_geq, bin_add, bin_sub, un_not, guard_or, guard_and, or_val, and_val, if_bool, conv_int, field_addr, len_sl, ex0, ex1, ex0', ex1', ex2', load_upd, List.getElem?_cons_zero, List.getElem?_cons_succ, Nat.add_zero, Nat.zero_add, List.all_cons, List.all_nil, bx_bool, bx_int, bx_agg, bx_sl, bx_ptr, bx_map, bx_str, bx_func, Bool.and_true, Bool.true_and, Bool.and_self, cond_true, cond_false ]; exact hk)) ?_
    simp only [bin_eql, bin_neq, bin_lss, bin_leq, bin_gtr, bin_geq, bin_add, bin_sub, un_not, guard_or, guard_and, or_val, and_val, if_bool, conv_int, field_addr, len_sl, ex0, ex1, ex0', ex1', ex2', load_upd, List.getElem?_cons_zero, List.getElem?_cons_succ, Nat.add_zero, Nat.zero_add, List.all_cons, List.all_nil, bx_bool, bx_int, bx_agg, bx_sl, bx_ptr, bx_map, bx_str, bx_func, Bool.and_true, Bool.true_and, Bool.and_self, cond_true, cond_false ]
    refine and_op (b := kn l[i].a) (fun _ K hk => ld5 2 (.int .i64 l[i].a) rfl (ldk _ hin.2.2.1 hin.2.2.2.1 hk)) ?_
    simp only [bin_eql, bin_neq, bin_lss, bin_leq, bin_gtr, bin_geq, bin_add, bin_sub, un_not, guard_or, guard_and, or_val, and_val, if_bool, conv_int, field_addr, len_sl, ex0, ex1, ex0', ex1', ex2', load_upd, List.getElem?_cons_zero, List.getElem?_cons_succ, Nat.add_zero, Nat.zero_add, List.all_cons, List.all_nil, bx_bool, bx_int, bx_agg, bx_sl, bx_ptr, bx_map, bx_str, bx_func, Bool.and_true, Bool.true_and, Bool.and_self, cond_true, cond_false ]
    refine and_op (b := kn l[i].b) (fun _ K hk => ld5 3 (.int .i64 l[i].b) rfl (ldk _ hin.2.2.2.2.1 hin.2.2.2.2.2 hk)) ?_
    simp only [bin_eql, bin_neq, bin_lss, bin_leq, bin_gtr, bin_geq, bin_add, bin_sub, un_not, guard_or, guard_and, or_val, and_val, if_bool, conv_int, field_addr, len_sl, ex0, ex1, ex0', ex1', ex2', load_upd, List.getElem?_cons_zero, List.getElem?_cons_succ, Nat.add_zero, Nat.zero_add, List.all_cons, List.all_nil, bx_bool, bx_int, bx_agg, bx_sl, bx_ptr, bx_map, bx_str, bx_func, Bool.and_true, Bool.true_and, Bool.and_self, cond_true, cond_false ]
    split
    · rename_i hbad
      refine to_q (hq _ hs5) ?_
      rw [hx, if_pos hbad]
    rename_i hok
    have hx2 : cleanF l (fun _ => false) = cleanF (l.drop (i + 1)) (if writesB l[i].op = true then put kn l[i].to (decide (l[i].op = 1)) else kn) := by
      rw [hx, if_neg hok]
    rw [load_agg (l := l[i].cells) (by rw [cellsAt_of h5 (by simp [Nd.cells])]; rfl)]
    refine ⟨rfl, writes_spec (n := l[i]) ?_⟩
    simp only [bin_eql, bin_neq, bin_lss, bin_leq, bin_gtr, bin_geq, bin_add, bin_sub, un_not, guard_or, guard_and, or_val, and_val, if_bool, conv_int, field_addr, len_sl, ex0, ex1, ex0', ex1', ex2', load_upd, List.getElem?_cons_zero, List.getElem?_cons_succ, Nat.add_zero, Nat.zero_add, List.all_cons, List.all_nil, bx_bool, bx_int, bx_agg, bx_sl, bx_ptr, bx_map, bx_str, bx_func, Bool.and_true, Bool.true_and, Bool.and_self, cond_true, cond_false ]
    split
    · rename_i hw
      simp only [hw, if_true] at hx2 ⊢
      refine ld5 0 (.int .i64 l[i].op) rfl ?_
      simp only [bin_eql, bin_neq, bin_lss, bin_leq, bin_gtr, bin_geq, bin_add, bin_sub, un_not, guard_or, guard_and, or_val, and_val, if_bool, conv_int, field_addr, len_sl, ex0, ex1, ex0', ex1', ex2', load_upd, List.getElem?_cons_zero, List.getElem?_cons_succ, Nat.add_zero, Nat.zero_add, List.all_cons, List.all_nil, bx_bool, bx_int, bx_agg, bx_sl, bx_ptr, bx_map, bx_str, bx_func, Bool.and_true, Bool.true_and, Bool.and_self, cond_true, cond_false ]
      rw [index_arr hin.1 (by simpa using hin.2.1), store_ok hb' (by simp) (by rfl) (by rfl) (by rw [bools_len]; omega)]
      have e : setL (bools kn) (0 + l[i].to.toNat * 1) (Value.bool (decide (l[i].op = 1))).cells.toList = bools (put kn l[i].to (decide (l[i].op = 1))) := by
        rw [← bools_set hin.1 hin.2.1]
        simp only [Nat.zero_add, Nat.mul_one]; rfl
      rw [e]
      simp only [F16_8, bin_eql, bin_neq, bin_lss, bin_leq, bin_gtr, bin_geq, bin_add, bin_sub, un_not, guard_or, guard_and, or_val, and_val, if_bool, conv_int, field_addr, len_sl, ex0, ex1, ex0', ex1', ex2', load_upd, List.getElem?_cons_zero, List.getElem?_cons_succ, Nat.add_zero, Nat.zero_add, List.all_cons, List.all_nil, bx_bool, bx_int, bx_agg, bx_sl, bx_ptr, bx_map, bx_str, bx_func, Bool.and_true, Bool.true_and, Bool.and_self, cond_true, cond_false ]
      refine ⟨l.length - (i + 1), by omega, i + 1, _, ?_, rfl, by omega, hx2, upd_same _ _ _, hs5.upd hb⟩
      rw [wrap64 (by omega) (by omega)]; rfl
    · rename_i hw
      rw [if_neg hw] at hx2
      simp only [F16_8, bin_eql, bin_neq, bin_lss, bin_leq, bin_gtr, bin_geq, bin_add, bin_sub, un_not, guard_or, guard_and, or_val, and_val, if_bool, conv_int, field_addr, len_sl, ex0, ex1, ex0', ex1', ex2', load_upd, List.getElem?_cons_zero, List.getElem?_cons_succ, Nat.add_zero, Nat.zero_add, List.all_cons, List.all_nil, bx_bool, bx_int, bx_agg, bx_sl, bx_ptr, bx_map, bx_str, bx_func, Bool.and_true, Bool.true_and, Bool.and_self, cond_true, cond_false ]
      refine ⟨l.length - (i + 1), by omega, i + 1, _, ?_, rfl, by omega, hx2, hb', hs5⟩
      rw [wrap64 (by omega) (by omega)]; rfl
  · rename_i hge
    have : i = l.length := by omega
    subst this
    rw [List.drop_length, cleanF] at hx
    simp only [F16_9]
    exact to_q (hq _ hsub) (by simp [hx])

/-! ### The plain law -/
theorem valueK_op {ps : KL} {n : Nd} {v : Int} (h : valueK ps n = some v) : reck n.op = true ∧ (kget ps n.a).isSome = true ∧ (kget ps n.b).isSome = true := by
  unfold valueK at h
  split at h
  · rename_i hb
    simp only [bothK, Bool.and_eq_true] at hb
    refine ⟨?_, hb⟩
    simp only [reck, Bool.or_eq_true, decide_eq_true_eq]
    split at h
    · exact .inl ‹_›
    · split at h
      · exact .inr ‹_›
      · cases h
  · cases h
theorem valueK_none {ps : KL} {n : Nd} (h : valueK ps n = none) : (reck n.op && (kget ps n.a).isSome && (kget ps n.b).isSome) = false := by
  unfold valueK at h
  split at h
  · split at h
    · cases h
    · split at h
      · cases h
      · simp only [reck]; simp [*]
  · rename_i hb
    simp only [bothK] at hb
    cases hk : (reck n.op && (kget ps n.a).isSome && (kget ps n.b).isSome)
    · rfl
    · exfalso; apply hb
      simp only [Bool.and_eq_true] at hk ⊢
      exact ⟨hk.1.2, hk.2⟩
theorem foldN_to (ps : KL) (n : Nd) : (foldN ps n).to = n.to ∧ writesB (foldN ps n).op = writesB n.op := by
  unfold foldN
  split
  · rename_i v hv
    have := (valueK_op hv).1
    simp only [reck, Bool.or_eq_true, decide_eq_true_eq] at this
    refine ⟨rfl, ?_⟩
    rcases this with h | h <;> rw [h] <;> rfl
  · exact ⟨rfl, rfl⟩
theorem fold_run : ∀ (l : List Nd) (ps : KL) (th : Int → Bool), goodRun l th = true → goodRun (foldL l ps) th = true
  | [], _, _, _ => rfl
  | n :: r, ps, th, hg => by
    have hw := foldN_to ps n
    rw [foldL, goodRun, hw.1, hw.2]
    simp only [goodRun, Bool.and_eq_true] at hg ⊢
    refine ⟨?_, fold_run r _ _ hg.2⟩
    unfold foldN
    split
    · rename_i v hv
      have hr := (valueK_op hv).1
      have hto := (formed_in hg.1.1.1)
      refine ⟨⟨?_, rfl⟩, rfl⟩
      simp only [formedB, valueB, hasL, fieldB]
      simp
      omega
    · exact hg.1
theorem fold_clean : ∀ (l : List Nd) (ps : KL) (kn : Int → Bool), kok ps → (∀ t, kn t = (kget ps t).isSome) → cleanF (foldL l ps) kn = true
  | [], _, _, _, _ => rfl
  | n :: r, ps, kn, hok, hk => by
    have hw := foldN_to ps n
    rw [foldL, cleanF, hw.1, hw.2]
    have hno : (reck (foldN ps n).op && kn (foldN ps n).a && kn (foldN ps n).b) = false := by
      unfold foldN
      split
      · rfl
      · rename_i hv
        rw [hk, hk]; exact valueK_none hv
    rw [if_neg (by rw [hno]; simp)]
    refine fold_clean r _ _ ?_ ?_
    · unfold foldP
      split
      · exact kset_ok hok
      · split
        · exact kdel_ok hok
        · exact hok
    · intro t
      unfold foldP
      rw [hw.1, hw.2]
      by_cases h1 : (foldN ps n).op = 1
      · have hwr : writesB n.op = true := by rw [← hw.2, h1]; rfl
        rw [if_pos h1, if_pos hwr, kget_set]
        unfold put
        by_cases ht : t = n.to
        · simp [ht, h1]
        · simp [ht, hk]
      · rw [if_neg h1]
        split
        · rw [kget_del hok]
          unfold put
          by_cases ht : t = n.to
          · simp [ht, h1]
          · simp [ht, hk]
        · exact hk t
theorem foldL_len : ∀ (l : List Nd) (ps : KL), (foldL l ps).length = l.length
  | [], _ => rfl
  | n :: r, ps => by rw [foldL, List.length_cons, foldL_len r, List.length_cons]
theorem foldN_other {ps : KL} {n : Nd} (h : reck n.op = false) : foldN ps n = n := by
  unfold foldN
  split
  · rename_i v hv; rw [(valueK_op hv).1] at h; cases h
  · rfl
theorem foldL_last : ∀ (l : List Nd) (ps : KL), reck (lastOp l) = false → lastOp (foldL l ps) = lastOp l
  | [], _, _ => rfl
  | [n], ps, h => by
    show lastOp [foldN ps n] = _
    rw [foldN_other h]
  | n :: m :: r, ps, h => by
    have := foldL_last (m :: r) (foldP ps (foldN ps n)) h
    rw [foldL]
    show lastOp (foldN ps n :: foldL (m :: r) _) = lastOp (m :: r)
    rw [← this, foldL]
    rfl
theorem makeF_law {l : List Nd} (hg : goodB l = true) : goodB (makeF l) = true ∧ (makeF l).length ≤ l.length ∧ cleanF (makeF l) (fun _ => false) = true := by
  rw [makeF, if_pos hg]
  refine ⟨?_, Nat.le_of_eq (foldL_len l []), fold_clean l [] _ List.Pairwise.nil (fun t => rfl)⟩
  cases l with
  | nil => cases hg
  | cons n r =>
    simp only [goodB, Bool.and_eq_true, decide_eq_true_eq] at hg
    obtain ⟨⟨⟨h1, h2⟩, h3⟩, h4, h5⟩ := hg
    have hrun := fold_run (n :: r) [] _ h3
    have hlen := foldL_len (n :: r) []
    have hlast := foldL_last (n :: r) [] (by simp only [reck, Bool.or_eq_false_iff, decide_eq_false_iff_not]; omega)
    have hn : foldN [] n = n := foldN_other (by rw [h2]; rfl)
    have e : foldL (n :: r) [] = n :: foldL r (foldP [] (foldN [] n)) := by rw [foldL, hn]
    rw [e] at hrun hlen hlast ⊢
    simp only [goodB, Bool.and_eq_true, decide_eq_true_eq]
    rw [hlast]
    exact ⟨⟨⟨by omega, h2⟩, hrun⟩, h4, h5⟩
end Go.Proofs.Ytpdleknbcgpemaa
