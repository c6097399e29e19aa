/-
  fold.Make: what it makes of a list.
-/
import Derived.Test.YtpdleknbcgpemaaU10
set_option linter.unusedSimpArgs false
set_option linter.unusedVariables false
namespace Go.Proofs.Ytpdleknbcgpemaa
open AM

theorem clone_okW {v : Value} {l : List Nd} {h : H} {K : Value → H → Prop} (hs : Sl Nd.cells 5 h v l) (hl : l.length ≤ 2000)
    (hk : ∀ v' h', Sub h h' → Sl Nd.cells 5 h' v' l → (l ≠ [] → ∃ b, 2 ≤ b ∧ h b = none ∧ v' = .slice (some ⟨b, 0, none⟩) l.length l.length ∧ h' b = some (.cells (l.flatMap Nd.cells) 29 .open)) → K v' h') :
    o_buildSlice Try.prog 22 0 [] h fun y h => o_append 29 5 40 y v h K := by
  rw [bs22]
  intro b hb2 hb
  have hs' := hs.mono (Sub.new (o := .cells [] 29 .exact) hb)
  have hlen := flat_length hs.1
  have hb0 : ¬ b = 0 := by omega
  unfold o_append
  simp only [hs'.srcLen, hs'.src]
  by_cases hn : l = []
  · subst hn
    simp only [List.length_nil, Nat.add_zero, Nat.le_refl, if_true]
    exact hk _ _ (Sub.new hb) Sl.nil' (fun h => absurd rfl h)
  · have hpos : 0 < l.length := by cases l <;> simp at hn ⊢
    have hno : ¬ (0 + l.length ≤ 0) := by omega
    simp only [hno, if_false, hb0, upd_same]
    refine ⟨by omega, by omega, hlen, hpos, by simp, fun b' hb2' hb' => ?_⟩
    have hbb : b' ≠ b := fun he => by rw [he, upd_same] at hb'; cases hb'
    rw [upd_ne _ _ hbb] at hb'
    simp only [Nat.zero_add, List.drop_nil, List.take_nil, List.nil_append]
    refine hk _ _ ((Sub.new hb).upd hb') ?_ (fun _ => ⟨b', hb2', hb', rfl, upd_same _ _ _⟩)
    refine Sl.of_block hs.1 (upd_same _ _ _) ?_ ?_
    · rw [List.drop_zero, ← hlen, List.take_length]
    · omega
theorem clone_specW {v : Value} {l : List Nd} {h : H} {Q : Value → H → Prop} (hs : Sl Nd.cells 5 h v l) (hl : l.length ≤ 2000)
    (hq : ∀ v' h', Sub h h' → Sl Nd.cells 5 h' v' l → (l ≠ [] → ∃ b, 2 ≤ b ∧ h b = none ∧ v' = .slice (some ⟨b, 0, none⟩) l.length l.length ∧ h' b = some (.cells (l.flatMap Nd.cells) 29 .open)) → Q v' h') : AM.Spec Try.prog 17 [v] h Q := by
  refine F17_spec _ _ _ ?_
  simp only [F17, F17_0]
  refine is_nil hs fun b hb => ?_
  simp only [bin_eql, bin_neq, bin_lss, bin_leq, bin_gtr, bin_geq, bin_add, bin_sub, un_not, guard_or, guard_and, or_val, and_val, if_bool, conv_int, field_addr, len_sl, ex0, ex1, ex0', ex1', ex2', load_upd, List.getElem?_cons_zero, List.getElem?_cons_succ, Nat.add_zero, Nat.zero_add, List.all_cons, List.all_nil, bx_bool, bx_int, bx_agg, bx_sl, bx_ptr, bx_map, bx_str, bx_func, Bool.and_true, Bool.true_and, Bool.and_self, cond_true, cond_false ]
  split
  · rename_i hbt
    obtain ⟨rfl, rfl⟩ := hb hbt
    exact hq _ _ (Sub.refl h) Sl.nil (fun h => absurd rfl h)
  · exact clone_okW hs hl hq

def foldN (ps : KL) (n : Nd) : Nd := match valueK ps n with | some v => ⟨1, n.to, 0, 0, v⟩ | none => n
def foldP (ps : KL) (n : Nd) : KL := if n.op = 1 then kset ps n.to n.v else if writesB n.op = true then kdel ps n.to else ps
def foldL : List Nd → KL → List Nd
  | [], _ => []
  | n :: r, ps => foldN ps n :: foldL r (foldP ps (foldN ps n))
def makeF (l : List Nd) : List Nd := if goodB l = true then foldL l [] else l
theorem foldN_v {ps : KL} (h : kin ps) {n : Nd} (hv : inU n.v) : inU (foldN ps n).v := by
  unfold foldN
  split
  · rename_i v hv'; exact valueK_in h hv'
  · exact hv
theorem foldP_in {ps : KL} (h : kin ps) (hok : kok ps) {n : Nd} (hv : inU n.v) : kin (foldP ps n) ∧ kok (foldP ps n) := by
  unfold foldP
  split
  · refine ⟨fun k v hk => ?_, kset_ok hok⟩
    rw [kget_set] at hk
    split at hk
    · cases hk; exact hv
    · exact h k v hk
  · split
    · refine ⟨fun k v hk => ?_, kdel_ok hok⟩
      rw [kget_del hok] at hk
      split at hk
      · cases hk
      · exact h k v hk
    · exact ⟨h, hok⟩

theorem fold_spec {v : Value} {l : List Nd} {h0 : H} {Q : Value → H → Prop} (hs : Sl Nd.cells 5 h0 v l) (hl : l.length ≤ 2000) (hv : ∀ n ∈ l, inU n.v) (hq : ∀ v' h', Sub h0 h' → Sl Nd.cells 5 h' v' (makeF l) → Q v' h') : AM.Spec Try.prog 14 [v] h0 Q := by
  refine F14_spec _ _ _ ?_
  simp only [F14, F14_0]
  refine ⟨by simp [hs.box], clone_specW hs hl fun v1 h1 hs1 hv1 hw => ?_⟩
  have hsv := hs.mono hs1
  refine ⟨by simp [hs.box], good_spec hsv (by omega) ?_⟩
  simp only [bin_eql, bin_neq, bin_lss, bin_leq, bin_gtr, bin_geq, bin_add, bin_sub, un_not, guard_or, guard_and, or_val, and_val, if_bool, conv_int, field_addr, len_sl, ex0, ex1, ex0', ex1', ex2', load_upd, List.getElem?_cons_zero, List.getElem?_cons_succ, Nat.add_zero, Nat.zero_add, List.all_cons, List.all_nil, bx_bool, bx_int, bx_agg, bx_sl, bx_ptr, bx_map, bx_str, bx_func, Bool.and_true, Bool.true_and, Bool.and_self, cond_true, cond_false , Bool.or_eq_true, Bool.and_eq_true, decide_eq_true_eq, Bool.not_eq_true', decide_eq_false_iff_not ]
  split
  · rename_i hbad
    exact hq _ _ hs1 (by rw [makeF, if_neg (by rw [hbad]; simp)]; exact hv1)
  rename_i hgood
  have hgood : goodB l = true := by simpa using hgood
  have hnil : l ≠ [] := fun he => by rw [he] at hgood; cases hgood
  obtain ⟨bo, hbo2, hbo0, rfl, hbo⟩ := hw hnil
  intro bm hbm2 hbm
  have hom : bo ≠ bm := fun he => by rw [he] at hbo; rw [hbm] at hbo; cases hbo
  have hbm0 : h0 bm = none := hs1.none hbm
  simp only [F14_1, F14_2, len_sl, F14_3, F14_4]
  refine ⟨fun m s h' => ∃ (i : Nat) (pre : List Nd) (ps : KL) (c : Nat), s = (.slice (some ⟨bo, 0, none⟩) l.length l.length, .map (some bm), .slice (some ⟨bo, 0, none⟩) l.length l.length, .int .i64 l.length, .int .i64 i) ∧ m = l.length - i ∧ i ≤ l.length ∧ pre.length = i ∧
      foldL l [] = pre ++ foldL (l.drop i) ps ∧ kin ps ∧ kok ps ∧ h' bo = some (.cells ((pre ++ l.drop i).flatMap Nd.cells) 29 .open) ∧ h' bm = some (.map (.int .i64) (encK ps) c) ∧ Sub h0 h',
    ⟨_, 0, [], [], 0, rfl, rfl, by omega, rfl, rfl, (fun k v hk => by cases hk), List.Pairwise.nil, ?_, upd_same _ _ _, hs1.upd hbm0⟩, ?_⟩
  · rw [upd_ne _ _ hom]; exact hbo
  rintro m s h' ⟨i, pre, ps, c, rfl, rfl, hi, hpre, hfold, hkin, hkok, hb1, hb2, hsub⟩
  simp only [F14_5, bin_eql, bin_neq, bin_lss, bin_leq, bin_gtr, bin_geq, bin_add, bin_sub, un_not, guard_or, guard_and, or_val, and_val, if_bool, conv_int, field_addr, len_sl, ex0, ex1, ex0', ex1', ex2', load_upd, List.getElem?_cons_zero, List.getElem?_cons_succ, Nat.add_zero, Nat.zero_add, List.all_cons, List.all_nil, bx_bool, bx_int, bx_agg, bx_sl, bx_ptr, bx_map, bx_str, bx_func, Bool.and_true, Bool.true_and, Bool.and_self, cond_true, cond_false , Bool.or_eq_true, Bool.and_eq_true, decide_eq_true_eq, Bool.not_eq_true', decide_eq_false_iff_not ]
  split
  · rename_i hlt
    have hlt : i < l.length := by omega
    have hml : (pre ++ l.drop i).length = l.length := by simp [hpre]; omega
    have hmi : (pre ++ l.drop i)[i]'(by omega) = l[i] := by
      rw [List.getElem_append_right (by omega)]; simp [hpre]
    have hsl : ∀ {h : H}, h bo = some (.cells ((pre ++ l.drop i).flatMap Nd.cells) 29 .open) → Sl Nd.cells 5 h (.slice (some ⟨bo, 0, none⟩) l.length l.length) (pre ++ l.drop i) := by
      intro h hb
      have := Sl.of_block (b := bo) (o := 0) (c := l.length) (l := pre ++ l.drop i) (h := h) (nd_len _) hb (by rw [List.drop_zero, ← flat_length (nd_len _), List.take_length]) (by rw [flat_length (nd_len _)]; omega)
      rw [hml] at this; exact this
    simp only [F14_6, F14_7, F14_8]
    refine node_load (hsl hb1) (i := i) (by omega) ?_
    rw [hmi]
    intro b6 hb62 hb6
    rw [store_nd]
    have n6o : b6 ≠ bo := fun he => by rw [he, hb1] at hb6; cases hb6
    have n6m : b6 ≠ bm := fun he => by rw [he, hb2] at hb6; cases hb6
    have hnv : inU l[i].v := hv _ (List.getElem_mem hlt)
    simp only [F14_9, F14_10]
    rw [load_aggU (by rfl)]
    refine ⟨rfl, knownv_spec (n := l[i]) hkin hnv (by rw [upd_ne _ _ n6m.symm]; exact hb2) ?_⟩
    simp only [bin_eql, bin_neq, bin_lss, bin_leq, bin_gtr, bin_geq, bin_add, bin_sub, un_not, guard_or, guard_and, or_val, and_val, if_bool, conv_int, field_addr, len_sl, ex0, ex1, ex0', ex1', ex2', load_upd, List.getElem?_cons_zero, List.getElem?_cons_succ, Nat.add_zero, Nat.zero_add, List.all_cons, List.all_nil, bx_bool, bx_int, bx_agg, bx_sl, bx_ptr, bx_map, bx_str, bx_func, Bool.and_true, Bool.true_and, Bool.and_self, cond_true, cond_false ]
    have hnext : ∀ (n' : Nd) (h2 : H), n' = foldN ps l[i] → h2 b6 = some (.cells n'.cells 29 .exact) → h2 bo = some (.cells ((pre ++ n' :: l.drop (i + 1)).flatMap Nd.cells) 29 .open) → h2 bm = some (.map (.int .i64) (encK ps) c) → Sub h0 h2 →
        F14_11 (.slice (some ⟨bo, 0, none⟩) l.length l.length) (.map (some bm)) (.pointer (some ⟨b6, 0, none⟩)) (.slice (some ⟨bo, 0, none⟩) l.length l.length) (.int .i64 l.length) (.int .i64 i) h2
          (fun y3 y4 y18 y19 y20 h => F14_12 y3 y4 y18 y19 y20 h (fun y3 y4 y18 y19 y20 h => ∃ m, m < l.length - i ∧ ∃ (i : Nat) (pre : List Nd) (ps : KL) (c : Nat), (y3, y4, y18, y19, y20) = (Value.slice (some ⟨bo, 0, none⟩) l.length l.length, Value.map (some bm), Value.slice (some ⟨bo, 0, none⟩) l.length l.length, Value.int .i64 l.length, Value.int .i64 i) ∧ m = l.length - i ∧ i ≤ l.length ∧ pre.length = i ∧
            foldL l [] = pre ++ foldL (l.drop i) ps ∧ kin ps ∧ kok ps ∧ h bo = some (.cells ((pre ++ l.drop i).flatMap Nd.cells) 29 .open) ∧ h bm = some (.map (.int .i64) (encK ps) c) ∧ Sub h0 h) Q (fun y3 h => F14_13 y3 h Q Q)) Q
          (fun y3 y4 y18 y19 y20 h => F14_12 y3 y4 y18 y19 y20 h (fun y3 y4 y18 y19 y20 h => ∃ m, m < l.length - i ∧ ∃ (i : Nat) (pre : List Nd) (ps : KL) (c : Nat), (y3, y4, y18, y19, y20) = (Value.slice (some ⟨bo, 0, none⟩) l.length l.length, Value.map (some bm), Value.slice (some ⟨bo, 0, none⟩) l.length l.length, Value.int .i64 l.length, Value.int .i64 i) ∧ m = l.length - i ∧ i ≤ l.length ∧ pre.length = i ∧
            foldL l [] = pre ++ foldL (l.drop i) ps ∧ kin ps ∧ kok ps ∧ h bo = some (.cells ((pre ++ l.drop i).flatMap Nd.cells) 29 .open) ∧ h bm = some (.map (.int .i64) (encK ps) c) ∧ Sub h0 h) Q (fun y3 h => F14_13 y3 h Q Q))
          (fun y3 h => F14_13 y3 h Q Q) := by
      intro n' h2 hn' g6 go gm gs
      have hnv' : inU n'.v := hn' ▸ foldN_v hkin hnv
      have hfin := foldP_in hkin hkok hnv'
      have hd : foldL l [] = (pre ++ [n']) ++ foldL (l.drop (i + 1)) (foldP ps n') := by
        rw [hfold, List.drop_eq_getElem_cons hlt, foldL, ← hn']; simp
      have e2 : pre ++ n' :: l.drop (i + 1) = (pre ++ [n']) ++ l.drop (i + 1) := by simp
      rw [e2] at go
      have last : ∀ (h3 : H) (c' : Nat), h3 bo = some (.cells (((pre ++ [n']) ++ l.drop (i + 1)).flatMap Nd.cells) 29 .open) → h3 bm = some (.map (.int .i64) (encK (foldP ps n')) c') → Sub h0 h3 →
          F14_12 (.slice (some ⟨bo, 0, none⟩) l.length l.length) (.map (some bm)) (.slice (some ⟨bo, 0, none⟩) l.length l.length) (.int .i64 l.length) (.int .i64 i) h3 (fun y3 y4 y18 y19 y20 h => ∃ m, m < l.length - i ∧ ∃ (i : Nat) (pre : List Nd) (ps : KL) (c : Nat), (y3, y4, y18, y19, y20) = (Value.slice (some ⟨bo, 0, none⟩) l.length l.length, Value.map (some bm), Value.slice (some ⟨bo, 0, none⟩) l.length l.length, Value.int .i64 l.length, Value.int .i64 i) ∧ m = l.length - i ∧ i ≤ l.length ∧ pre.length = i ∧
            foldL l [] = pre ++ foldL (l.drop i) ps ∧ kin ps ∧ kok ps ∧ h bo = some (.cells ((pre ++ l.drop i).flatMap Nd.cells) 29 .open) ∧ h bm = some (.map (.int .i64) (encK ps) c) ∧ Sub h0 h) Q (fun y3 h => F14_13 y3 h Q Q) := by
        intro h3 c' k1 k2 k3
        simp only [F14_12, bin_eql, bin_neq, bin_lss, bin_leq, bin_gtr, bin_geq, bin_add, bin_sub, un_not, guard_or, guard_and, or_val, and_val, if_bool, conv_int, field_addr, len_sl, ex0, ex1, ex0', ex1', ex2', load_upd, List.getElem?_cons_zero, List.getElem?_cons_succ, Nat.add_zero, Nat.zero_add, List.all_cons, List.all_nil, bx_bool, bx_int, bx_agg, bx_sl, bx_ptr, bx_map, bx_str, bx_func, Bool.and_true, Bool.true_and, Bool.and_self, cond_true, cond_false ]
        refine ⟨l.length - (i + 1), by omega, i + 1, pre ++ [n'], foldP ps n', c', ?_, rfl, by omega, by simp [hpre], hd, hfin.1, hfin.2, k1, k2, k3⟩
        rw [wrap64 (by omega) (by omega)]; rfl
      simp only [F14_11]
      rw [load_agg (l := n'.cells) (by rw [cellsAt_of g6 (by simp [Nd.cells])]; rfl)]
      refine ⟨rfl, writes_spec (n := n') ?_⟩
      simp only [bin_eql, bin_neq, bin_lss, bin_leq, bin_gtr, bin_geq, bin_add, bin_sub, un_not, guard_or, guard_and, or_val, and_val, if_bool, conv_int, field_addr, len_sl, ex0, ex1, ex0', ex1', ex2', load_upd, List.getElem?_cons_zero, List.getElem?_cons_succ, Nat.add_zero, Nat.zero_add, List.all_cons, List.all_nil, bx_bool, bx_int, bx_agg, bx_sl, bx_ptr, bx_map, bx_str, bx_func, Bool.and_true, Bool.true_and, Bool.and_self, cond_true, cond_false ]
      rw [load_cell (v := .int .i64 n'.op) (by rw [cellAt_of g6]; rfl)]
      simp only [bin_eql, bin_neq, bin_lss, bin_leq, bin_gtr, bin_geq, bin_add, bin_sub, un_not, guard_or, guard_and, or_val, and_val, if_bool, conv_int, field_addr, len_sl, ex0, ex1, ex0', ex1', ex2', load_upd, List.getElem?_cons_zero, List.getElem?_cons_succ, Nat.add_zero, Nat.zero_add, List.all_cons, List.all_nil, bx_bool, bx_int, bx_agg, bx_sl, bx_ptr, bx_map, bx_str, bx_func, Bool.and_true, Bool.true_and, Bool.and_self, cond_true, cond_false , Bool.or_eq_true, Bool.and_eq_true, decide_eq_true_eq, Bool.not_eq_true', decide_eq_false_iff_not ]
      split
      · rename_i hop
        rw [load_cell (v := .int .u32 n'.v) (by rw [cellAt_of g6]; rfl)]
        have hwr : writesB n'.op = true := by rw [hop]; rfl
        simp only [hwr, if_true]
        refine ⟨rfl, rfl, ?_⟩
        simp only [gm]
        refine ⟨trivial, ?_⟩
        rw [mset_enc]
        refine last _ (if mhas (encK ps) (.int .i64 n'.to) then c else c + 1) (by rw [upd_ne _ _ hom]; exact go) ?_ (gs.upd hbm0)
        rw [upd_same, foldP, if_pos hop]
      · rename_i hop
        split
        · rename_i hwr
          refine ⟨rfl, ?_⟩
          simp only [gm]
          refine ⟨trivial, ?_⟩
          rw [mdel_enc]
          refine last _ c (by rw [upd_ne _ _ hom]; exact go) ?_ (gs.upd hbm0)
          rw [upd_same, foldP, if_neg hop, if_pos hwr]
        · rename_i hwr
          refine last _ c go ?_ gs
          rw [gm, foldP, if_neg hop, if_neg hwr]
    have hdrop : l.drop i = l[i] :: l.drop (i + 1) := List.drop_eq_getElem_cons hlt
    cases hval : valueK ps l[i] with
    | none =>
      simp only [Option.isSome_none, Bool.false_eq_true, if_false]
      refine hnext l[i] _ (by rw [foldN, hval]) (upd_same _ _ _) ?_ ?_ (hsub.upd (hsub.none hb6))
      · rw [upd_ne _ _ n6o.symm, ← hdrop]; exact hb1
      · rw [upd_ne _ _ n6m.symm]; exact hb2
    | some x =>
      simp only [Option.isSome_some, if_true, Option.getD_some]
      rw [show l[i].cells[1]? = some (.int .i64 l[i].to) from rfl]
      dsimp only
      have bld : ∀ (t x : Int) (K : Value → Prop), o_build Try.prog 29 [(0, (.int .i64 1)), (1, .int .i64 t), (4, .int .u32 x)] K = K (Nd.val ⟨1, t, 0, 0, x⟩) := fun t x K => by kernel_rfl
      rw [bld]
      have hst : ∀ (K : H → Prop), o_store 5 (.pointer (some ⟨b6, 0, none⟩)) (Nd.val ⟨1, l[i].to, 0, 0, x⟩) (upd h' b6 (.cells l[i].cells 29 .exact)) K = K (upd h' b6 (.cells (Nd.cells ⟨1, l[i].to, 0, 0, x⟩) 29 .exact)) := fun K => store_nd
      rw [hst]
      rw [load_aggU (by rfl)]
      have go : upd h' b6 (.cells (Nd.cells ⟨1, l[i].to, 0, 0, x⟩) 29 .exact) bo = some (.cells ((pre ++ l.drop i).flatMap Nd.cells) 29 .open) := by rw [upd_ne _ _ n6o.symm]; exact hb1
      rw [index_sl (by omega) (by omega), store_ok go (by simp) (by rfl) (by rfl) (by rw [flat_length (nd_len _), hml]; simp only [Nat.zero_add, Int.toNat_natCast]; omega)]
      have e : setL ((pre ++ l.drop i).flatMap Nd.cells) (0 + (i : Int).toNat * 5) (Value.agg (Nd.cells ⟨1, l[i].to, 0, 0, x⟩).toArray).cells.toList = (pre ++ ⟨1, l[i].to, 0, 0, x⟩ :: l.drop (i + 1)).flatMap Nd.cells := by
        have := flat_set (enc := Nd.cells) (sz := 5) (l := pre ++ l.drop i) i ⟨1, l[i].to, 0, 0, x⟩ (nd_len _) rfl (by omega)
        simp only [Nat.zero_add, Int.toNat_natCast]
        refine this.trans ?_
        have e0 : i - pre.length = 0 := by omega
        rw [hdrop, List.set_append_right _ _ (by omega), e0, List.set_cons_zero]
      rw [e]
      refine hnext ⟨1, l[i].to, 0, 0, x⟩ _ (by rw [foldN, hval]) ?_ (upd_same _ _ _) ?_ ?_
      · rw [upd_ne _ _ n6o, upd_same]
      · rw [upd_ne _ _ hom.symm, upd_ne _ _ n6m.symm]; exact hb2
      · exact (hsub.upd (hsub.none hb6)).upd hbo0
  · rename_i hge
    have hil : i = l.length := by omega
    subst hil
    simp only [F14_13]
    refine hq _ _ hsub ?_
    rw [List.drop_length, foldL, List.append_nil] at hfold
    rw [List.drop_length, List.append_nil] at hb1
    rw [makeF, if_pos hgood, hfold, ← hpre]
    have := Sl.of_block (b := bo) (o := 0) (c := pre.length) (l := pre) (h := h') (nd_len _) hb1 (by rw [List.drop_zero, ← flat_length (nd_len _), List.take_length]) (by rw [flat_length (nd_len _)]; omega)
    exact this
end Go.Proofs.Ytpdleknbcgpemaa
