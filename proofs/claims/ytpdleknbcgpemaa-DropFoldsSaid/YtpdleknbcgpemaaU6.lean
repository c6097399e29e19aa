/-
  drop.Make: what it makes of a list.
-/
import Derived.Test.YtpdleknbcgpemaaU5
set_option linter.unusedSimpArgs false
set_option linter.unusedVariables false
namespace Go.Proofs.Ytpdleknbcgpemaa
open AM

def markR (w : Int → Bool) (ts : List Int) : Int → Bool := ts.foldl (fun w t => put w t true) w
def dropStep (st : (Int → Bool) × List Nd) (n : Nd) : (Int → Bool) × List Nd :=
  if (idleB n.op && !st.1 n.to) = true then st else (markR (if writesB n.op = true then put st.1 n.to false else st.1) (rl n), st.2 ++ [n])
def dropRun (l : List Nd) (k : Nat) : (Int → Bool) × List Nd := (l.drop k).reverse.foldl dropStep (fun _ => false, [])
theorem dropRun_step {l : List Nd} {k : Nat} (hk : k < l.length) : dropRun l k = dropStep (dropRun l (k + 1)) l[k] := by
  unfold dropRun
  rw [List.drop_eq_getElem_cons hk, List.reverse_cons, List.foldl_append]
  rfl
theorem dropRun_end (l : List Nd) : dropRun l l.length = (fun _ => false, []) := by simp [dropRun]
theorem dropRun_len (l : List Nd) : ∀ k, k ≤ l.length → (dropRun l k).2.length ≤ l.length - k := by
  intro k hk
  obtain ⟨j, rfl⟩ : ∃ j, k = l.length - j := ⟨l.length - k, by omega⟩
  have : ∀ j, j ≤ l.length → (dropRun l (l.length - j)).2.length ≤ j := by
    intro j
    induction j with
    | zero => intro _; rw [Nat.sub_zero, dropRun_end]; simp
    | succ j ih =>
      intro hj
      have e : l.length - (j + 1) + 1 = l.length - j := by omega
      rw [dropRun_step (by omega), e, dropStep]
      split
      · exact Nat.le_succ_of_le (ih (by omega))
      · simp only [List.length_append, List.length_singleton]; have := ih (by omega); omega
  by_cases hj : j ≤ l.length
  · have := this j hj; omega
  · have e : l.length - j = 0 := by omega
    have := this l.length (by omega)
    rw [Nat.sub_self] at this; rw [e]; omega
def makeB (l : List Nd) : List Nd := if goodB l = true then (dropRun l 0).2.reverse else l

structure MS (v : Value) (l0 d b3 b4 b5 : Nat) (h0 : H) (lo : AObj) (w : Int → Bool) (out : List Nd) (h : H) : Prop where
  l : h l0 = some lo
  d : h d = some .defer
  w : h b3 = some (.cells (bools w) 30 .exact)
  o : ∃ vo, h b4 = some (.cells [vo] 22 .exact) ∧ Gr Nd.cells 5 29 h0 h vo out
  v : h b5 = some (.cells [v] 22 .exact)
  s : Sub h0 h
structure Dis (l0 d b3 b4 b5 : Nat) (h0 : H) : Prop where
  ld : l0 ≠ d
  l3 : l0 ≠ b3
  l4 : l0 ≠ b4
  l5 : l0 ≠ b5
  d3 : d ≠ b3
  d4 : d ≠ b4
  d5 : d ≠ b5
  b34 : b3 ≠ b4
  b35 : b3 ≠ b5
  b45 : b4 ≠ b5
  hl : h0 l0 = none
  hd : h0 d = none
  h3 : h0 b3 = none
  h4 : h0 b4 = none
  h5 : h0 b5 = none

section
variable {v : Value} {l0 d b3 b4 b5 : Nat} {h0 h h' : H} {lo : AObj} {w : Int → Bool} {out : List Nd}
theorem MS.sub (hm : MS v l0 d b3 b4 b5 h0 lo w out h) (hs : Sub h h') : MS v l0 d b3 b4 b5 h0 lo w out h' := by
  obtain ⟨a1, a2, a3, ⟨vo, a4, a5⟩, a6, a7⟩ := hm
  exact ⟨hs _ _ a1, hs _ _ a2, hs _ _ a3, ⟨vo, hs _ _ a4, a5.keep fun b hb => by rw [hs _ _ (Gr.isOpen a5 hb), Gr.isOpen a5 hb]⟩, hs _ _ a6, a7.trans hs⟩
theorem MS.setW (hd : Dis l0 d b3 b4 b5 h0) (hm : MS v l0 d b3 b4 b5 h0 lo w out h) (w' : Int → Bool) : MS v l0 d b3 b4 b5 h0 lo w' out (upd h b3 (.cells (bools w') 30 .exact)) := by
  obtain ⟨a1, a2, a3, ⟨vo, a4, a5⟩, a6, a7⟩ := hm
  exact ⟨by rw [upd_ne _ _ hd.l3]; exact a1, by rw [upd_ne _ _ hd.d3]; exact a2, upd_same _ _ _, ⟨vo, by rw [upd_ne _ _ hd.b34.symm]; exact a4, Gr.over a5 a3 (fun cs he => by cases he)⟩, by rw [upd_ne _ _ hd.b35.symm]; exact a6, a7.upd hd.h3⟩
theorem MS.setL (hd : Dis l0 d b3 b4 b5 h0) (hm : MS v l0 d b3 b4 b5 h0 lo w out h) (hlo : ∀ cs E m, lo ≠ .cells cs E m) (lo' : AObj) : MS v l0 d b3 b4 b5 h0 lo' w out (upd h l0 lo') := by
  obtain ⟨a1, a2, a3, ⟨vo, a4, a5⟩, a6, a7⟩ := hm
  exact ⟨upd_same _ _ _, by rw [upd_ne _ _ hd.ld.symm]; exact a2, by rw [upd_ne _ _ hd.l3.symm]; exact a3, ⟨vo, by rw [upd_ne _ _ hd.l4.symm]; exact a4, Gr.over a5 a1 (fun cs he => hlo _ _ _ he)⟩, by rw [upd_ne _ _ hd.l5.symm]; exact a6, a7.upd hd.hl⟩
theorem MS.push (hd : Dis l0 d b3 b4 b5 h0) (hlo : ∀ cs E m, lo ≠ .cells cs E m) (hm : MS v l0 d b3 b4 b5 h0 lo w out h) {n : Nd} (hn : out.length ≤ 2000) {K : H → Prop} (hk : ∀ h', MS v l0 d b3 b4 b5 h0 lo w (out ++ [n]) h' → K h') :
    o_load false 1 (.pointer (some ⟨b4, 0, none⟩)) h fun v48 => o_buildSlice Try.prog 22 1 [(0, n.val)] h fun v50 h => o_append 29 5 40 v48 v50 h fun v51 h => o_store 1 (.pointer (some ⟨b4, 0, none⟩)) v51 h K := by
  obtain ⟨a1, a2, a3, ⟨vo, a4, a5⟩, a6, a7⟩ := hm
  rw [load_cell (v := vo) (by rw [cellAt_of a4]; rfl), bs22']
  intro b hb2 hb
  have hs1 : Sub h (upd h b (.cells n.cells 29 .exact)) := Sub.new hb
  have hg1 : Gr Nd.cells 5 29 h0 (upd h b (.cells n.cells 29 .exact)) vo out := a5.keep fun c hc => by rw [hs1 _ _ (Gr.isOpen a5 hc), Gr.isOpen a5 hc]
  have ne : ∀ c q, h c = some q → (∀ cs, q ≠ .cells cs 29 .open) → blockOf vo ≠ some c := fun c q hc hq he => by
    have := Gr.isOpen a5 he
    rw [hc] at this; cases this; exact hq _ rfl
  refine Gr.append (m := [n]) hg1 (Sl.of_block (b := b) (o := 0) (l := [n]) (c := 1) (nd_len _) (upd_same _ _ _) rfl (by simp [Nd.cells])) (by simp) (by omega) (by simp; omega) (by simp; omega) (a7.trans hs1) fun vo' h2 g1 g2 g3 g4 => ?_
  have k : ∀ c q, h c = some q → (∀ cs, q ≠ .cells cs 29 .open) → h2 c = some q := fun c q hc hq => g3 _ _ (hs1 _ _ hc) (ne c q hc hq)
  have k4 := k _ _ a4 (fun cs he => by cases he)
  have hbox : boxV vo' = true := g1.sl.box
  have hcell : vo'.cells = #[vo'] := by
    obtain ⟨_, ⟨_, rfl⟩ | ⟨_, _, _, rfl, _⟩⟩ := g1 <;> rfl
  rw [store_ok k4 (by simp) hbox (by rw [hcell]; rfl) (by simp), hcell]
  refine hk _ ⟨?_, ?_, ?_, ⟨vo', upd_same _ _ _, Gr.over g1 k4 (fun cs he => by cases he)⟩, ?_, g2.upd hd.h4⟩
  · rw [upd_ne _ _ hd.l4]; exact k _ _ a1 (fun cs he => hlo _ _ _ he)
  · rw [upd_ne _ _ hd.d4]; exact k _ _ a2 (fun cs he => by cases he)
  · rw [upd_ne _ _ hd.b34]; exact k _ _ a3 (fun cs he => by cases he)
  · rw [upd_ne _ _ hd.b45.symm]; exact k _ _ a6 (fun cs he => by cases he)

theorem markR_take {w : Int → Bool} {l : List Int} {q : Nat} (hq : q < l.length) : markR w (l.take (q + 1)) = put (markR w (l.take q)) l[q] true := by
  unfold markR
  rw [List.take_add_one, List.getElem?_eq_getElem hq, List.foldl_append]
  rfl
theorem make_round {L : LObj} (hL : ∀ s p cs E m, L s p ≠ .cells cs E m) (hd : Dis l0 d b3 b4 b5 h0) {n : Nd} (hf : formedB n = true) (hm : MS v l0 d b3 b4 b5 h0 (L .ready none) w out h) (hlen : out.length ≤ 2000) {a0 : Value} {K : Value → H → Prop}
    (hk : ∀ h', MS v l0 d b3 b4 b5 h0 (L .ready none) (dropStep (w, out) n).1 (dropStep (w, out) n).2 h' → K (.bool true) h') : F9_4r (.pointer (some ⟨b3, 0, none⟩)) (.pointer (some ⟨b4, 0, none⟩)) L l0 a0 n.val h K := by
  unfold F9_4r
  simp only [F9_15]
  intro b6 hb62 hb6
  rw [store_nd]
  have hm1 := hm.sub (Sub.new (o := .cells n.cells 29 .exact) hb6)
  refine ⟨hm1.l, ?_⟩
  have hm2 := hm1.setL hd (hL _ _) (L .busy none)
  have h6 : upd (upd h b6 (.cells n.cells 29 .exact)) l0 (L .busy none) b6 = some (.cells n.cells 29 .exact) := by
    have : b6 ≠ l0 := fun he => by rw [he, hm.l] at hb6; cases hb6
    rw [upd_ne _ _ this, upd_same]
  have h63 : b6 ≠ b3 := fun he => by rw [he, hm.w] at hb6; cases hb6
  generalize upd (upd h b6 (.cells n.cells 29 .exact)) l0 (L .busy none) = h2 at *
  have ld6 : ∀ (i : Nat) (x : Value) {K : Value → Prop} {h' : H}, h' b6 = some (.cells n.cells 29 .exact) → n.cells[i]? = some x → K x → o_load false 1 (.pointer (some ⟨b6, i, none⟩)) h' K := by
    intro i x K h' hb hx hk
    rw [load_cell (v := x) (by rw [cellAt_of hb]; exact hx)]; exact hk
  have ldn : ∀ {K : Value → Prop} {h' : H}, h' b6 = some (.cells n.cells 29 .exact) → K n.val → o_load true 5 (.pointer (some ⟨b6, 0, none⟩)) h' K := by
    intro K h' hb hk
    rw [load_agg (l := n.cells) (by rw [cellsAt_of hb (by simp [Nd.cells])]; rfl)]; exact hk
  have hin := formed_in hf
  have fin : ∀ h3 w' out', MS v l0 d b3 b4 b5 h0 (L .busy none) w' out' h3 → dropStep (w, out) n = (w', out') → roundK L l0 K h3 := by
    intro h3 w' out' hm3 he
    refine ⟨hm3.l, hk _ ?_⟩
    rw [he]
    exact hm3.setL hd (hL _ _) (L .ready none)
  simp only [F9_5, F9_6, bin_eql, bin_neq, bin_lss, bin_leq, bin_gtr, bin_geq, bin_add, bin_sub, un_not, guard_or, guard_and, or_val, and_val, if_bool, conv_int, field_addr, len_sl, ex0, ex1, ex0', ex1', ex2', load_upd, List.getElem?_cons_zero, List.getElem?_cons_succ, Nat.add_zero, Nat.zero_add, List.all_cons, List.all_nil, bx_bool, bx_int, bx_agg, bx_sl, bx_ptr, bx_map, bx_str, bx_func, Bool.and_true, Bool.true_and, Bool.and_self, cond_true, cond_false ]
  refine ld6 0 (.int .i64 n.op) h6 rfl ?_
  refine ⟨rfl, idle_spec ?_⟩
  simp only [bin_eql, bin_neq, bin_lss, bin_leq, bin_gtr, bin_geq, bin_add, bin_sub, un_not, guard_or, guard_and, or_val, and_val, if_bool, conv_int, field_addr, len_sl, ex0, ex1, ex0', ex1', ex2', load_upd, List.getElem?_cons_zero, List.getElem?_cons_succ, Nat.add_zero, Nat.zero_add, List.all_cons, List.all_nil, bx_bool, bx_int, bx_agg, bx_sl, bx_ptr, bx_map, bx_str, bx_func, Bool.and_true, Bool.true_and, Bool.and_self, cond_true, cond_false ]
  refine and_op (b := !w n.to) (fun _ K hk => ?_) ?_
  · refine ld6 1 (.int .i64 n.to) h6 rfl ?_
    rw [index_arr hin.1 (by simpa using hin.2.1), load_cell (v := .bool (w n.to)) (by rw [cellAt_of hm2.w]; simpa using bools_get hin.1 hin.2.1)]
    simp only [bin_eql, bin_neq, bin_lss, bin_leq, bin_gtr, bin_geq, bin_add, bin_sub, un_not, guard_or, guard_and, or_val, and_val, if_bool, conv_int, field_addr, len_sl, ex0, ex1, ex0', ex1', ex2', load_upd, List.getElem?_cons_zero, List.getElem?_cons_succ, Nat.add_zero, Nat.zero_add, List.all_cons, List.all_nil, bx_bool, bx_int, bx_agg, bx_sl, bx_ptr, bx_map, bx_str, bx_func, Bool.and_true, Bool.true_and, Bool.and_self, cond_true, cond_false ]
    exact hk
  simp only [bin_eql, bin_neq, bin_lss, bin_leq, bin_gtr, bin_geq, bin_add, bin_sub, un_not, guard_or, guard_and, or_val, and_val, if_bool, conv_int, field_addr, len_sl, ex0, ex1, ex0', ex1', ex2', load_upd, List.getElem?_cons_zero, List.getElem?_cons_succ, Nat.add_zero, Nat.zero_add, List.all_cons, List.all_nil, bx_bool, bx_int, bx_agg, bx_sl, bx_ptr, bx_map, bx_str, bx_func, Bool.and_true, Bool.true_and, Bool.and_self, cond_true, cond_false ]
  split
  · rename_i hskip
    exact fin _ _ _ hm2 (by rw [dropStep, if_pos hskip])
  rename_i hkeep
  have hstep : dropStep (w, out) n = (markR (if writesB n.op = true then put w n.to false else w) (rl n), out ++ [n]) := by rw [dropStep, if_neg hkeep]
  have rest : ∀ h3, MS v l0 d b3 b4 b5 h0 (L .busy none) (if writesB n.op = true then put w n.to false else w) out h3 → h3 b6 = some (.cells n.cells 29 .exact) → F9_9 (.pointer (some ⟨b3, 0, none⟩)) (.pointer (some ⟨b4, 0, none⟩)) (.pointer (some ⟨b6, 0, none⟩)) h3 (roundK L l0 K) (roundR L l0 K) (roundK L l0 K) := by
    intro h3 hm3 h63'
    generalize (if writesB n.op = true then put w n.to false else w) = w1 at *
    simp only [F9_9, F9_10]
    refine ldn h63' ?_
    refine ⟨rfl, reads_specG (n := n) fun v39 h4 hs4 hg4 => ?_⟩
    have hm4 := hm3.sub hs4
    have h64 := hs4 _ _ h63'
    simp only [hg4.sl.len, F9_11, F9_12]
    have hrl : (rl n).length < 10 := by simp [rl]; split <;> split <;> split <;> simp
    refine ⟨fun m s h' => ∃ q : Nat, s = (.pointer (some ⟨b3, 0, none⟩), .pointer (some ⟨b4, 0, none⟩), .pointer (some ⟨b6, 0, none⟩), v39, .int .i64 (rl n).length, .int .i64 q) ∧ m = (rl n).length - q ∧ q ≤ (rl n).length ∧ MS v l0 d b3 b4 b5 h0 (L .busy none) (markR w1 ((rl n).take q)) out h' ∧ h' b6 = some (.cells n.cells 29 .exact) ∧ Gr encI 1 3 h3 h' v39 (rl n),
      ⟨_, 0, rfl, rfl, by omega, hm4, h64, hg4⟩, ?_⟩
    rintro m s h5 ⟨q, rfl, rfl, hq, hm5, h65, hg5⟩
    simp only [F9_13, bin_eql, bin_neq, bin_lss, bin_leq, bin_gtr, bin_geq, bin_add, bin_sub, un_not, guard_or, guard_and, or_val, and_val, if_bool, conv_int, field_addr, len_sl, ex0, ex1, ex0', ex1', ex2', load_upd, List.getElem?_cons_zero, List.getElem?_cons_succ, Nat.add_zero, Nat.zero_add, List.all_cons, List.all_nil, bx_bool, bx_int, bx_agg, bx_sl, bx_ptr, bx_map, bx_str, bx_func, Bool.and_true, Bool.true_and, Bool.and_self, cond_true, cond_false , Bool.or_eq_true, Bool.and_eq_true, decide_eq_true_eq, Bool.not_eq_true', decide_eq_false_iff_not ]
    split
    · rename_i hlt
      have hlt : q < (rl n).length := by omega
      obtain ⟨b, o, g1, g2⟩ := hg5.sl.at hlt
      rw [g1, load_cell (v := .int .i64 (rl n)[q]) (by have := cellAt_part g2 (m := 0) (by omega); simpa [encI] using this)]
      have hrin := rl_in hf _ (List.getElem_mem hlt)
      rw [index_arr hrin.1 (by simpa using hrin.2), store_ok hm5.w (by simp) (by rfl) (by rfl) (by rw [bools_len]; omega)]
      rw [wrap64 (by omega) (by omega)]
      have e : setL (bools (markR w1 ((rl n).take q))) (0 + ((rl n)[q]).toNat * 1) (Value.bool true).cells.toList = bools (markR w1 ((rl n).take (q + 1))) := by
        rw [markR_take hlt, ← bools_set hrin.1 hrin.2]
        simp only [Nat.zero_add, Nat.mul_one]; rfl
      rw [e]
      refine ⟨_, ?_, q + 1, rfl, rfl, by omega, hm5.setW hd _, ?_, ?_⟩
      · omega
      · rw [upd_ne _ _ h63]; exact h65
      · exact hg5.over hm5.w (fun cs he => by cases he)
    · have : q = (rl n).length := by omega
      subst this
      rw [List.take_length] at hm5
      simp only [F9_14]
      have e49 : ∀ (K : H → Prop), (o_load false 1 (.pointer (some ⟨b4, 0, none⟩)) h5 fun v48 => o_buildSlice Try.prog 22 1 [(0, n.val)] h5 fun v50 h => o_append 29 5 40 v48 v50 h fun v51 h => o_store 1 (.pointer (some ⟨b4, 0, none⟩)) v51 h K) → (o_load false 1 (.pointer (some ⟨b4, 0, none⟩)) h5 fun v48 => o_load true 5 (.pointer (some ⟨b6, 0, none⟩)) h5 fun v49 => o_buildSlice Try.prog 22 1 [(0, v49)] h5 fun v50 h => o_append 29 5 40 v48 v50 h fun v51 h => o_store 1 (.pointer (some ⟨b4, 0, none⟩)) v51 h K) := by
        intro K hh
        have el : ∀ K : Value → Prop, o_load true 5 (.pointer (some ⟨b6, 0, none⟩)) h5 K = K n.val := fun K => load_agg (l := n.cells) (by rw [cellsAt_of h65 (by simp [Nd.cells])]; rfl)
        simp only [el]
        exact hh
      refine e49 _ ?_
      exact hm5.push hd (hL _ _) hlen fun h' hm' => fin _ _ _ hm' hstep
  simp only [F9_7, F9_8]
  refine ldn h6 ?_
  refine ⟨rfl, writes_spec (n := n) ?_⟩
  simp only [bin_eql, bin_neq, bin_lss, bin_leq, bin_gtr, bin_geq, bin_add, bin_sub, un_not, guard_or, guard_and, or_val, and_val, if_bool, conv_int, field_addr, len_sl, ex0, ex1, ex0', ex1', ex2', load_upd, List.getElem?_cons_zero, List.getElem?_cons_succ, Nat.add_zero, Nat.zero_add, List.all_cons, List.all_nil, bx_bool, bx_int, bx_agg, bx_sl, bx_ptr, bx_map, bx_str, bx_func, Bool.and_true, Bool.true_and, Bool.and_self, cond_true, cond_false ]
  split
  · rename_i hw
    simp only [hw, if_true] at rest ⊢
    rw [index_arr hin.1 (by simpa using hin.2.1), store_ok hm2.w (by simp) (by rfl) (by rfl) (by rw [bools_len]; omega)]
    have e : setL (bools w) (0 + n.to.toNat * 1) (Value.bool false).cells.toList = bools (put w n.to false) := by
      rw [← bools_set hin.1 hin.2.1]
      simp only [Nat.zero_add, Nat.mul_one]; rfl
    rw [e]
    exact rest _ (hm2.setW hd _) (by rw [upd_ne _ _ h63]; exact h6)
  · rename_i hw
    rw [if_neg hw] at rest
    exact rest _ hm2 h6
end

theorem reverse_nil {h : H} {Q : Value → H → Prop} (hq : Q (.tuple #[]) h) : AM.Spec Try.prog 22 [.slice none 0 0] h Q := by
  refine F22_spec _ _ _ ?_
  simp only [F22, F22_0, bin_eql, bin_neq, bin_lss, bin_leq, bin_gtr, bin_geq, bin_add, bin_sub, un_not, guard_or, guard_and, or_val, and_val, if_bool, conv_int, field_addr, len_sl, ex0, ex1, ex0', ex1', ex2', load_upd, List.getElem?_cons_zero, List.getElem?_cons_succ, Nat.add_zero, Nat.zero_add, List.all_cons, List.all_nil, bx_bool, bx_int, bx_agg, bx_sl, bx_ptr, bx_map, bx_str, bx_func, Bool.and_true, Bool.true_and, Bool.and_self, cond_true, cond_false , F22_1, F22_2]
  rw [wrap64 (by simp) (by simp)]
  refine ⟨fun n s h' => s = (.slice none 0 0, .int .i64 0, .int .i64 (-1)) ∧ h' = h, ⟨0, rfl, rfl⟩, ?_⟩
  rintro n s h' ⟨rfl, rfl⟩
  simp only [F22_3, bin_eql, bin_neq, bin_lss, bin_leq, bin_gtr, bin_geq, bin_add, bin_sub, un_not, guard_or, guard_and, or_val, and_val, if_bool, conv_int, field_addr, len_sl, ex0, ex1, ex0', ex1', ex2', load_upd, List.getElem?_cons_zero, List.getElem?_cons_succ, Nat.add_zero, Nat.zero_add, List.all_cons, List.all_nil, bx_bool, bx_int, bx_agg, bx_sl, bx_ptr, bx_map, bx_str, bx_func, Bool.and_true, Bool.true_and, Bool.and_self, cond_true, cond_false , Bool.or_eq_true, Bool.and_eq_true, decide_eq_true_eq, Bool.not_eq_true', decide_eq_false_iff_not ]
  rw [if_neg (by omega)]
  exact hq
theorem goodRun_formed : ∀ {l : List Nd} {th : Int → Bool}, goodRun l th = true → ∀ n ∈ l, formedB n = true
  | n :: r, th, h, m, hm => by
    simp only [goodRun, Bool.and_eq_true] at h
    rcases List.mem_cons.1 hm with rfl | hm
    · exact h.1.1.1
    · exact goodRun_formed h.2 m hm
theorem goodB_formed {l : List Nd} (h : goodB l = true) : ∀ n ∈ l, formedB n = true := by
  unfold goodB at h
  cases l with
  | nil => cases h
  | cons n r =>
    simp only [Bool.and_eq_true] at h
    exact goodRun_formed h.1.2
theorem make_spec {v : Value} {l : List Nd} {h0 : H} {Q : Value → H → Prop} (hs : Sl Nd.cells 5 h0 v l) (hl : l.length ≤ 2000) (hq : ∀ v' h', Sub h0 h' → Sl Nd.cells 5 h' v' (makeB l) → Q v' h') : AM.Spec Try.prog 9 [v] h0 Q := by
  refine F9_spec _ _ _ ?_
  simp only [F9, F9_0]
  refine ⟨by simp [hs.box], good_spec hs (by omega) ?_⟩
  simp only [bin_eql, bin_neq, bin_lss, bin_leq, bin_gtr, bin_geq, bin_add, bin_sub, un_not, guard_or, guard_and, or_val, and_val, if_bool, conv_int, field_addr, len_sl, ex0, ex1, ex0', ex1', ex2', load_upd, List.getElem?_cons_zero, List.getElem?_cons_succ, Nat.add_zero, Nat.zero_add, List.all_cons, List.all_nil, bx_bool, bx_int, bx_agg, bx_sl, bx_ptr, bx_map, bx_str, bx_func, Bool.and_true, Bool.true_and, Bool.and_self, cond_true, cond_false , Bool.or_eq_true, Bool.and_eq_true, decide_eq_true_eq, Bool.not_eq_true', decide_eq_false_iff_not ]
  split
  · rename_i hbad
    refine ⟨by simp [hs.box], clone_spec hs hl fun v' h' hsub hs' => ?_⟩
    exact hq v' h' hsub (by rw [makeB, if_neg (by simp [hbad])]; exact hs')
  rename_i hgood
  have hgood : goodB l = true := by simpa using hgood
  intro b3 hb32 hb3 b4 hb42 hb4
  rw [bools_none] at *
  have hd34 : b3 ≠ b4 := fun he => by rw [← he, upd_same] at hb4; cases hb4
  have hb40 : h0 b4 = none := by rw [upd_ne _ _ hd34.symm] at hb4; exact hb4
  simp only [F9_1, F9_2]
  refine ⟨by simp [hs.box], backward_spec (by obtain ⟨_, ⟨_, rfl⟩ | ⟨b, o, c, rfl, _⟩⟩ := hs <;> exact ⟨_, _, _, rfl⟩) fun b5 hb52 hb5 => ?_⟩
  have hd45 : b4 ≠ b5 := fun he => by rw [← he, upd_same] at hb5; cases hb5
  have hd35 : b3 ≠ b5 := fun he => by rw [← he, upd_ne _ _ hd34, upd_same] at hb5; cases hb5
  have hb50 : h0 b5 = none := by rw [upd_ne _ _ hd45.symm, upd_ne _ _ hd35.symm] at hb5; exact hb5
  simp only [F9_3, F9_4]
  intro l0 d L hl02 hd2 hld hl0 hd0 hL hround
  have x3 : ∀ c, upd (upd (upd h0 b3 (.cells (bools fun _ => false) 30 .exact)) b4 (.cells [.slice none 0 0] 22 .exact)) b5 (.cells [v] 22 .exact) c = none → c ≠ b3 ∧ c ≠ b4 ∧ c ≠ b5 ∧ h0 c = none := by
    intro c hc
    have n5 : c ≠ b5 := fun he => by rw [he, upd_same] at hc; cases hc
    rw [upd_ne _ _ n5] at hc
    have n4 : c ≠ b4 := fun he => by rw [he, upd_same] at hc; cases hc
    rw [upd_ne _ _ n4] at hc
    have n3 : c ≠ b3 := fun he => by rw [he, upd_same] at hc; cases hc
    rw [upd_ne _ _ n3] at hc
    exact ⟨n3, n4, n5, hc⟩
  obtain ⟨l3, l4, l5, hl00⟩ := x3 _ hl0
  obtain ⟨d3, d4, d5, hd00⟩ := x3 _ hd0
  have hd : Dis l0 d b3 b4 b5 h0 := ⟨hld, l3, l4, l5, d3, d4, d5, hd34, hd35, hd45, hl00, hd00, hb3, hb40, hb50⟩
  have hlen := dropRun_len l
  refine ⟨by kernel_rfl, rounds_spec (l := l) (v := v) (b1 := b5) (fun k h => k ≤ l.length ∧ MS v l0 d b3 b4 b5 h0 (L .ready none) (dropRun l k).1 (dropRun l k).2 h) (by omega) (fun k h hj => ⟨hj.2.v, hs.mono hj.2.s⟩) (fun k hk h hj K hK => ?_) ⟨by omega, ?_⟩ fun h' hj => .inl ⟨hj.2.l, ?_⟩⟩
  · refine ⟨rfl, rfl, rfl, hround _ _ _ hj.2.l ?_⟩
    refine make_round hL hd (goodB_formed hgood _ (List.getElem_mem hk)) hj.2 (by have := hlen (k + 1) (by omega); omega) fun h' hm => hK _ ⟨by omega, ?_⟩
    rw [dropRun_step hk]; exact hm
  · rw [dropRun_end]
    have s1 : Sub h0 (upd h0 b3 (.cells (bools fun _ => false) 30 .exact)) := Sub.new hb3
    have s2 := s1.upd (o := .cells [.slice none 0 0] 22 .exact) hb40
    have s3 := s2.upd (o := .cells [v] 22 .exact) hb50
    have s4 := s3.upd (o := .defer) hd00
    refine ⟨upd_same _ _ _, ?_, ?_, ⟨.slice none 0 0, ?_, Gr.empty⟩, ?_, s4.upd hl00⟩
    · rw [upd_ne _ _ hld.symm, upd_same]
    · rw [upd_ne _ _ l3.symm, upd_ne _ _ d3.symm, upd_ne _ _ hd35, upd_ne _ _ hd34, upd_same]
    · rw [upd_ne _ _ l4.symm, upd_ne _ _ d4.symm, upd_ne _ _ hd45, upd_same]
    · rw [upd_ne _ _ l5.symm, upd_ne _ _ d5.symm, upd_same]
  · obtain ⟨_, hm⟩ := hj
    obtain ⟨vo, ho, hg⟩ := hm.o
    have hdel : ∀ c, c ≠ l0 → del h' l0 c = h' c := fun c hc => del_ne _ hc
    have ho' : del h' l0 b4 = some (.cells [vo] 22 .exact) := by rw [hdel _ l4.symm]; exact ho
    have hs0 : Sub h0 (del h' l0) := fun c o hc => by
      have : c ≠ l0 := fun he => by rw [he, hl00] at hc; cases hc
      rw [hdel _ this]; exact hm.s _ _ hc
    have hd' : del h' l0 d = some .defer := by rw [hdel _ hld.symm]; exact hm.d
    simp only [F9_16]
    have ld4 : ∀ (h : H) (K : Value → Prop), h b4 = some (.cells [vo] 22 .exact) → K vo → o_load false 1 (.pointer (some ⟨b4, 0, none⟩)) h K := by
      intro h K hb hk
      rw [load_cell (v := vo) (by rw [cellAt_of hb]; rfl)]; exact hk
    have final : ∀ (h : H), h b4 = some (.cells [vo] 22 .exact) → h d = some .defer → Sub h0 h → Sl Nd.cells 5 (fun b => if b = d then none else h b) vo (dropRun l 0).2.reverse → o_load false 1 (.pointer (some ⟨b4, 0, none⟩)) h fun v54 => o_ret (addMark undef d) h fun h => Q v54 h := by
      intro h hb hdd hss hsl
      refine ld4 h _ hb ?_
      have hm1 : marks (addMark undef d) = [d] := by simp [marks, addMark, undef]
      unfold o_ret
      rw [hm1]
      refine ⟨by simp, by simpa using hdd, ?_⟩
      have e : (fun b => if b ∈ [d] then none else h b) = fun b => if b = d then none else h b := by funext b; simp
      rw [e]
      refine hq _ _ (fun c o hc => ?_) (by rw [makeB, if_pos hgood]; exact hsl)
      have : c ≠ d := fun he => by rw [he, hd00] at hc; cases hc
      simp only [this, if_false]; exact hss _ _ hc
    refine ld4 _ _ ho' ?_
    obtain ⟨hz, ⟨hnil, rfl⟩ | ⟨b, hne, hb2, rfl, hbb, hb0⟩⟩ := hg
    · refine ⟨rfl, reverse_nil ?_⟩
      refine final _ ho' hd' hs0 ?_
      rw [hnil]; exact Sl.nil
    · have bl0 : b ≠ l0 := fun he => by rw [he, hm.l] at hbb; exact hL _ _ _ _ _ (Option.some.inj hbb)
      have bb4 : b ≠ b4 := fun he => by rw [he, ho] at hbb; simp at hbb
      have bd : b ≠ d := fun he => by rw [he, hm.d] at hbb; cases hbb
      refine ⟨rfl, reverse_spec (b := b) (l := (dropRun l 0).2) (E := 29) (m := .open) ?_ (by simp) (by have := hlen 0 (by omega); omega) ?_⟩
      · rw [hdel _ bl0]; exact hbb
      · refine final _ ?_ ?_ (hs0.upd hb0) ?_
        · rw [upd_ne _ _ bb4.symm]; exact ho'
        · rw [upd_ne _ _ bd.symm]; exact hd'
        · have e : (dropRun l 0).2.length = (dropRun l 0).2.reverse.length := by simp
          rw [e]
          refine Sl.of_block (b := b) (o := 0) (nd_len _) (E := 29) (m := .open) (cs := (dropRun l 0).2.reverse.flatMap Nd.cells) ?_ ?_ ?_
          · simp only [bd, if_false]; exact upd_same _ _ _
          · rw [List.drop_zero, ← flat_length (nd_len _), List.take_length]
          · rw [flat_length (nd_len _)]; omega
end Go.Proofs.Ytpdleknbcgpemaa
