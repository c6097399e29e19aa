/-
  slices.Clone, slices.Reverse, slices.Backward at lists of nodes.
-/
import Derived.Test.YtpdleknbcgpemaaU4
set_option linter.unusedSimpArgs false
set_option linter.unusedVariables false
namespace Go.Proofs.Ytpdleknbcgpemaa
open AM

theorem lit22 : litCells Try.prog 22 0 [] = some ([], 29) := by kernel_rfl
theorem bs22 {h : H} {K : Value → H → Prop} : o_buildSlice Try.prog 22 0 [] h K = o_new [] 29 .exact h fun b h => K (.slice (some ⟨b, 0, none⟩) 0 0) h := by
  unfold o_buildSlice
  rw [lit22]
theorem lit22' (n : Nd) : litCells Try.prog 22 1 [(0, n.val)] = some (n.cells, 29) := by kernel_rfl
theorem bs22' {n : Nd} {h : H} {K : Value → H → Prop} : o_buildSlice Try.prog 22 1 [(0, n.val)] h K = o_new n.cells 29 .exact h fun b h => K (.slice (some ⟨b, 0, none⟩) 1 1) h := by
  unfold o_buildSlice
  rw [lit22']

/-- 'append([]T{}, x...)'. -/
theorem clone_ok {v : Value} {l : List Nd} {h : H} {K : Value → H → Prop} (hs : Sl Nd.cells 5 h v l) (hl : l.length ≤ 2000) (hk : ∀ v' h', Sub h h' → Sl Nd.cells 5 h' v' l → K v' h') :
    o_buildSlice Try.prog 22 0 [] h fun y h => o_append 29 5 40 y v h K := by
  rw [bs22]
  intro b hb2 hb
  have hs' := hs.mono (Sub.new (o := .cells [] 29 .exact) hb)
  have hlen := flat_length hs.1
  have hb0 : ¬ b = 0 := by omega
  unfold o_append
  simp only [hs'.srcLen, hs'.src]
  by_cases hn : l = []
  · subst hn
    simp only [List.length_nil, Nat.add_zero, Nat.le_refl, if_true]
    exact hk _ _ (Sub.new hb) Sl.nil'
  · have hpos : 0 < l.length := by cases l <;> simp at hn ⊢
    have hno : ¬ (0 + l.length ≤ 0) := by omega
    simp only [hno, if_false, hb0, upd_same]
    refine ⟨by omega, by omega, hlen, hpos, by simp, fun b' hb2' hb' => ?_⟩
    have hbb : b' ≠ b := fun he => by rw [he, upd_same] at hb'; cases hb'
    rw [upd_ne _ _ hbb] at hb'
    simp only [Nat.zero_add, List.drop_nil, List.take_nil, List.nil_append]
    refine hk _ _ ((Sub.new hb).upd hb') ?_
    refine Sl.of_block hs.1 (upd_same _ _ _) ?_ ?_
    · rw [List.drop_zero, ← hlen, List.take_length]
    · omega
theorem bin_ofP {op : BinOp} {t : TypeId} {x y v : Value} {K : Value → Prop} (h : (selfV x && selfV y && okEq Try.prog op t x y) = true) (hr : pureRun Try.prog (binOp op t x y) = some v) (hs : selfV v = true) : o_bin Try.prog op t x y K = K v := by
  unfold o_bin o_pure
  rw [h, hr]
  show (bif selfV v then K v else False) = K v
  rw [hs, cond_true]
theorem is_nil {v : Value} {l : List Nd} {h : H} {K : Value → Prop} (hs : Sl Nd.cells 5 h v l) (hk : ∀ b, (b = true → l = [] ∧ v = .slice none 0 0) → K (.bool b)) : o_bin Try.prog .eql 22 v (.slice none 0 0) K := by
  obtain ⟨_, ⟨rfl, rfl⟩ | ⟨b, o, c, rfl, _⟩⟩ := hs
  · have : o_bin Try.prog .eql 22 (.slice none 0 0) (.slice none 0 0) K = K (.bool true) := bin_ofP (by kernel_rfl) (by kernel_rfl) rfl
    rw [this]; exact hk true fun _ => ⟨rfl, rfl⟩
  · have hu : Try.prog.underlying 22 = some (.slice 29) := by kernel_rfl
    unfold o_bin
    have : (selfV (.slice (some ⟨b, o, none⟩) l.length c) && selfV (.slice none 0 0) && okEq Try.prog .eql 22 (.slice (some ⟨b, o, none⟩) l.length c) (.slice none 0 0)) = false := rfl
    simp only [this, cond_false, hu]
    exact hk false fun h => by cases h
theorem clone_spec {v : Value} {l : List Nd} {h : H} {Q : Value → H → Prop} (hs : Sl Nd.cells 5 h v l) (hl : l.length ≤ 2000) (hq : ∀ v' h', Sub h h' → Sl Nd.cells 5 h' v' l → Q v' h') : AM.Spec Try.prog 17 [v] h Q := by
  refine F17_spec _ _ _ ?_
  simp only [F17, F17_0]
  refine is_nil hs fun b hb => ?_
  simp only [bin_eql, bin_neq, bin_lss, bin_leq, bin_gtr, bin_geq, bin_add, bin_sub, un_not, guard_or, guard_and, or_val, and_val, if_bool, conv_int, field_addr, len_sl, ex0, ex1, ex0', ex1', ex2', load_upd, List.getElem?_cons_zero, List.getElem?_cons_succ, Nat.add_zero, Nat.zero_add, List.all_cons, List.all_nil, bx_bool, bx_int, bx_agg, bx_sl, bx_ptr, bx_map, bx_str, bx_func, Bool.and_true, Bool.true_and, Bool.and_self, cond_true, cond_false ]
  split
  · rename_i hbt
    obtain ⟨rfl, rfl⟩ := hb hbt
    exact hq _ _ (Sub.refl h) Sl.nil
  · exact clone_ok hs hl hq
theorem backward_spec {v : Value} {h : H} {Q : Value → H → Prop} (hv : ∃ a n c, v = .slice a n c) (hq : ∀ b, 2 ≤ b → h b = none → Q (.func (.func 28) #[] #[.pointer (some ⟨b, 0, none⟩)]) (upd h b (.cells [v] 22 .exact))) : AM.Spec Try.prog 18 [v] h Q := by
  obtain ⟨a, n, c, rfl⟩ := hv
  refine F18_spec _ _ _ ?_
  exact ⟨rfl, fun b hb2 hb => ⟨rfl, rfl, hq b hb2 hb⟩⟩
/-- What slices.Backward's rounds come to: from the last element to the first. -/
theorem rounds_spec {v y : Value} {b1 : Nat} {l : List Nd} {h : H} {Q : Value → H → Prop} (J : Nat → H → Prop) (hl : l.length < 9223372036854775807)
    (hJ : ∀ k h, J k h → h b1 = some (.cells [v] 22 .exact) ∧ Sl Nd.cells 5 h v l)
    (hr : ∀ k (hk : k < l.length) h, J (k + 1) h → ∀ K : Value → H → Prop, (∀ h', J k h' → K (.bool true) h') → o_dyn Try.prog y [.int .i64 k, l[k].val] h K)
    (h0 : J l.length h) (hq : ∀ h', J 0 h' → Q (.tuple #[]) h') : AM.Spec Try.prog 28 [y, .pointer (some ⟨b1, 0, none⟩)] h Q := by
  refine F28_spec _ _ _ _ ?_
  have ld : ∀ k h (K : Value → Prop), J k h → K v → o_load false 1 (.pointer (some ⟨b1, 0, none⟩)) h K := by
    intro k h K hj hk
    rw [load_cell (v := v) (by rw [cellAt_of (hJ k h hj).1]; rfl)]; exact hk
  simp only [F28, F28_0, List.all_nil, cond_true]
  refine ld _ _ _ h0 ?_
  simp only [(hJ _ _ h0).2.len, bin_eql, bin_neq, bin_lss, bin_leq, bin_gtr, bin_geq, bin_add, bin_sub, un_not, guard_or, guard_and, or_val, and_val, if_bool, conv_int, field_addr, len_sl, ex0, ex1, ex0', ex1', ex2', load_upd, List.getElem?_cons_zero, List.getElem?_cons_succ, Nat.add_zero, Nat.zero_add, List.all_cons, List.all_nil, bx_bool, bx_int, bx_agg, bx_sl, bx_ptr, bx_map, bx_str, bx_func, Bool.and_true, Bool.true_and, Bool.and_self, cond_true, cond_false , F28_1, F28_2]
  rw [wrap64 (by omega) (by omega)]
  refine ⟨fun n s h' => ∃ k : Nat, s = (y, .pointer (some ⟨b1, 0, none⟩), .int .i64 ((k : Int) - 1)) ∧ n = k ∧ k ≤ l.length ∧ J k h', ⟨_, l.length, rfl, rfl, by omega, h0⟩, ?_⟩
  rintro k s h' ⟨k', rfl, hn, hk, hj⟩
  subst hn
  simp only [F28_3, bin_eql, bin_neq, bin_lss, bin_leq, bin_gtr, bin_geq, bin_add, bin_sub, un_not, guard_or, guard_and, or_val, and_val, if_bool, conv_int, field_addr, len_sl, ex0, ex1, ex0', ex1', ex2', load_upd, List.getElem?_cons_zero, List.getElem?_cons_succ, Nat.add_zero, Nat.zero_add, List.all_cons, List.all_nil, bx_bool, bx_int, bx_agg, bx_sl, bx_ptr, bx_map, bx_str, bx_func, Bool.and_true, Bool.true_and, Bool.and_self, cond_true, cond_false , Bool.or_eq_true, Bool.and_eq_true, decide_eq_true_eq, Bool.not_eq_true', decide_eq_false_iff_not ]
  split
  · rename_i hge
    obtain ⟨k, rfl⟩ : ∃ m, k = m + 1 := ⟨k - 1, by omega⟩
    have hkl : k < l.length := by omega
    have e : ((k + 1 : Nat) : Int) - 1 = (k : Int) := by omega
    rw [e]
    refine ld _ _ _ hj ?_
    refine node_load (hJ _ _ hj).2 hkl ?_
    refine hr k hkl h' hj _ fun h2 hj2 => ?_
    simp only [bin_eql, bin_neq, bin_lss, bin_leq, bin_gtr, bin_geq, bin_add, bin_sub, un_not, guard_or, guard_and, or_val, and_val, if_bool, conv_int, field_addr, len_sl, ex0, ex1, ex0', ex1', ex2', load_upd, List.getElem?_cons_zero, List.getElem?_cons_succ, Nat.add_zero, Nat.zero_add, List.all_cons, List.all_nil, bx_bool, bx_int, bx_agg, bx_sl, bx_ptr, bx_map, bx_str, bx_func, Bool.and_true, Bool.true_and, Bool.and_self, cond_true, cond_false ]
    rw [wrap64 (by omega) (by omega)]
    exact ⟨k, by omega, k, rfl, rfl, by omega, hj2⟩
  · have : k = 0 := by omega
    subst this
    exact hq _ hj

theorem flat_set {α : Type} {enc : α → List Value} {sz : Nat} : ∀ {l : List α} (i : Nat) (x : α), (∀ y ∈ l, (enc y).length = sz) → (enc x).length = sz → i < l.length → setL (l.flatMap enc) (i * sz) (enc x) = (l.set i x).flatMap enc := by
  have app : ∀ (vs a b c : List Value), vs.length = b.length → setL (a ++ b ++ c) a.length vs = a ++ vs ++ c := by
    intro vs
    induction vs with
    | nil => intro a b c h; cases b <;> simp at h ⊢; rfl
    | cons v vs ih =>
      intro a b c h
      cases b with
      | nil => simp at h
      | cons b0 b =>
        rw [setL]
        have e : (a ++ b0 :: b ++ c).set a.length v = (a ++ [v]) ++ b ++ c := by simp
        rw [e]
        have := ih (a ++ [v]) b c (by simpa using h)
        simpa using this
  intro l i x hl hx hi
  have hsplit : l = l.take i ++ l[i] :: l.drop (i + 1) := by simp
  have hlen : ((l.take i).flatMap enc).length = i * sz := by
    rw [flat_length fun y hy => hl y (List.mem_of_mem_take hy), List.length_take, Nat.min_eq_left (by omega)]
  have h1 : l.flatMap enc = (l.take i).flatMap enc ++ enc l[i] ++ (l.drop (i + 1)).flatMap enc := by
    have := congrArg (List.flatMap enc) hsplit
    rw [this, List.flatMap_append, List.flatMap_cons, List.append_assoc]
  have h2 : (l.set i x).flatMap enc = (l.take i).flatMap enc ++ enc x ++ (l.drop (i + 1)).flatMap enc := by
    rw [List.set_eq_take_append_cons_drop, if_pos hi]; simp
  rw [h1, h2, ← hlen]
  exact app _ _ _ _ (by rw [hx, hl _ (List.getElem_mem hi)])
theorem getD_lt {α : Type} (l : List α) (d : α) {k : Nat} (h : k < l.length) : l.getD k d = l[k] := by simp [h]
theorem nd_len (l : List Nd) : ∀ x ∈ l, (Nd.cells x).length = 5 := fun _ _ => rfl

/-- i elements from either end have changed places. -/
def prev (l : List Nd) (i : Nat) : List Nd := (List.range l.length).map fun k => if k < i ∨ l.length - i ≤ k then l.getD (l.length - 1 - k) ⟨0, 0, 0, 0, 0⟩ else l.getD k ⟨0, 0, 0, 0, 0⟩
theorem prev_len (l : List Nd) (i : Nat) : (prev l i).length = l.length := by simp [prev]
theorem prev_get (l : List Nd) (i k : Nat) (hk : k < l.length) : (prev l i)[k]'(by rw [prev_len]; exact hk) = if k < i ∨ l.length - i ≤ k then l.getD (l.length - 1 - k) ⟨0, 0, 0, 0, 0⟩ else l.getD k ⟨0, 0, 0, 0, 0⟩ := by simp [prev]
theorem prev_zero (l : List Nd) : prev l 0 = l := by
  refine List.ext_getElem (prev_len l 0) fun k h1 h2 => ?_
  rw [prev_get l 0 k h2, if_neg (by omega)]
  simp [h2]
theorem prev_end (l : List Nd) (i : Nat) (hi : l.length ≤ 2 * i + 1) (hi2 : i ≤ l.length) : prev l i = l.reverse := by
  refine List.ext_getElem (by rw [prev_len]; simp) fun k h1 h2 => ?_
  rw [prev_len] at h1
  rw [prev_get l i k h1, List.getElem_reverse]
  split
  · rw [getD_lt _ _ (by omega)]
  · have : k = l.length - 1 - k := by omega
    have hk : k < l.length := h1
    rw [getD_lt _ _ hk]
    congr 1
theorem prev_step (l : List Nd) (i : Nat) (hi : 2 * i + 1 < l.length) : ((prev l i).set i (l[l.length - 1 - i]'(by omega))).set (l.length - 1 - i) (l[i]'(by omega)) = prev l (i + 1) := by
  refine List.ext_getElem (by simp [prev_len]) fun k h1 h2 => ?_
  rw [prev_len] at h2
  rw [prev_get l (i + 1) k h2, List.getElem_set, List.getElem_set, prev_get l i k h2]
  by_cases e1 : l.length - 1 - i = k
  · subst e1
    rw [if_pos rfl, if_pos (by omega), getD_lt _ _ (by omega)]
    congr 1; omega
  · rw [if_neg e1]
    by_cases e2 : i = k
    · subst e2
      rw [if_pos rfl, if_pos (by omega), getD_lt _ _ (by omega)]
    · rw [if_neg e2]
      by_cases e3 : k < i ∨ l.length - i ≤ k
      · rw [if_pos e3, if_pos (by omega)]
      · rw [if_neg e3, if_neg (by omega)]
theorem reverse_spec {b : Nat} {l : List Nd} {h : H} {E : TypeId} {m : AM.Own} {Q : Value → H → Prop} (hb : h b = some (.cells (l.flatMap Nd.cells) E m)) (hm : m ≠ .ro) (hl : l.length < 9223372036854775807)
    (hq : Q (.tuple #[]) (upd h b (.cells (l.reverse.flatMap Nd.cells) E m))) : AM.Spec Try.prog 22 [.slice (some ⟨b, 0, none⟩) l.length l.length] h Q := by
  refine F22_spec _ _ _ ?_
  simp only [F22, F22_0, bin_eql, bin_neq, bin_lss, bin_leq, bin_gtr, bin_geq, bin_add, bin_sub, un_not, guard_or, guard_and, or_val, and_val, if_bool, conv_int, field_addr, len_sl, ex0, ex1, ex0', ex1', ex2', load_upd, List.getElem?_cons_zero, List.getElem?_cons_succ, Nat.add_zero, Nat.zero_add, List.all_cons, List.all_nil, bx_bool, bx_int, bx_agg, bx_sl, bx_ptr, bx_map, bx_str, bx_func, Bool.and_true, Bool.true_and, Bool.and_self, cond_true, cond_false , F22_1, F22_2]
  rw [wrap64 (by omega) (by omega)]
  have self : ∀ h : H, ∀ o, h b = some o → upd h b o = h := by
    intro h o ho
    funext c
    by_cases hc : c = b
    · subst hc; rw [upd_same, ho]
    · rw [upd_ne _ _ hc]
  have eu : ∀ q q', upd (upd h b q) b q' = upd h b q' := fun q q' => by funext c; unfold upd; split <;> rfl
  refine ⟨fun n s h' => ∃ i : Nat, s = (.slice (some ⟨b, 0, none⟩) l.length l.length, .int .i64 i, .int .i64 ((l.length : Int) - 1 - i)) ∧ n = l.length - i ∧ i ≤ l.length ∧ h' = upd h b (.cells ((prev l i).flatMap Nd.cells) E m), ⟨_, 0, by simp, rfl, by omega, ?_⟩, ?_⟩
  · rw [prev_zero, self h _ hb]
  rintro n s h' ⟨i, rfl, rfl, hi, rfl⟩
  simp only [F22_3, bin_eql, bin_neq, bin_lss, bin_leq, bin_gtr, bin_geq, bin_add, bin_sub, un_not, guard_or, guard_and, or_val, and_val, if_bool, conv_int, field_addr, len_sl, ex0, ex1, ex0', ex1', ex2', load_upd, List.getElem?_cons_zero, List.getElem?_cons_succ, Nat.add_zero, Nat.zero_add, List.all_cons, List.all_nil, bx_bool, bx_int, bx_agg, bx_sl, bx_ptr, bx_map, bx_str, bx_func, Bool.and_true, Bool.true_and, Bool.and_self, cond_true, cond_false , Bool.or_eq_true, Bool.and_eq_true, decide_eq_true_eq, Bool.not_eq_true', decide_eq_false_iff_not ]
  split
  · rename_i hlt
    have hlt : 2 * i + 1 < l.length := by omega
    have hpl := prev_len l i
    have hs : Sl Nd.cells 5 (upd h b (.cells ((prev l i).flatMap Nd.cells) E m)) (.slice (some ⟨b, 0, none⟩) l.length l.length) (prev l i) := by
      have := Sl.of_block (b := b) (o := 0) (c := l.length) (l := prev l i) (h := upd h b (.cells ((prev l i).flatMap Nd.cells) E m)) (nd_len _) (upd_same _ _ _) (by rw [List.drop_zero, ← flat_length (nd_len _), List.take_length]) (by rw [flat_length (nd_len _)]; omega)
      rw [hpl] at this; exact this
    have ej : ((l.length : Int) - 1 - i) = ((l.length - 1 - i : Nat) : Int) := by omega
    simp only [F22_4, F22_5, F22_6]
    rw [ej]
    refine node_load hs (i := l.length - 1 - i) (by omega) ?_
    refine node_load hs (i := i) (by omega) ?_
    rw [index_sl (by omega) (by omega), store_ok (upd_same _ _ _) hm (by rfl) (by rfl) (by rw [flat_length (nd_len _), hpl]; omega), index_sl (by omega) (by omega)]
    have c1 : ∀ n : Nd, n.val.cells.toList = n.cells := fun _ => rfl
    rw [eu, c1]
    simp only [Nat.zero_add, Int.toNat_natCast]
    rw [flat_set i _ (nd_len _) rfl (by omega)]
    rw [store_ok (upd_same _ _ _) hm (by rfl) (by rfl) (by rw [flat_length (nd_len _), List.length_set, hpl]; omega), eu, c1, flat_set _ _ (nd_len _) rfl (by rw [List.length_set]; omega)]
    simp only [F22_7, bin_eql, bin_neq, bin_lss, bin_leq, bin_gtr, bin_geq, bin_add, bin_sub, un_not, guard_or, guard_and, or_val, and_val, if_bool, conv_int, field_addr, len_sl, ex0, ex1, ex0', ex1', ex2', load_upd, List.getElem?_cons_zero, List.getElem?_cons_succ, Nat.add_zero, Nat.zero_add, List.all_cons, List.all_nil, bx_bool, bx_int, bx_agg, bx_sl, bx_ptr, bx_map, bx_str, bx_func, Bool.and_true, Bool.true_and, Bool.and_self, cond_true, cond_false ]
    rw [wrap64 (by omega) (by omega), wrap64 (by omega) (by omega)]
    refine ⟨l.length - (i + 1), by omega, i + 1, ?_, rfl, by omega, ?_⟩
    · congr 3; omega
    · rw [← prev_step l i hlt]
      have g1 : (prev l i)[l.length - 1 - i]'(by omega) = l[l.length - 1 - i]'(by omega) := by
        rw [prev_get l i _ (by omega), if_neg (by omega), getD_lt _ _ (by omega)]
      have g2 : (prev l i)[i]'(by omega) = l[i]'(by omega) := by
        rw [prev_get l i _ (by omega), if_neg (by omega), getD_lt _ _ (by omega)]
      rw [g1, g2]
  · rename_i hge
    rw [prev_end l i (by omega) hi]
    exact hq
end Go.Proofs.Ytpdleknbcgpemaa
