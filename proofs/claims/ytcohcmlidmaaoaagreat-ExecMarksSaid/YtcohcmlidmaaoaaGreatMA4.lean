/-
  What a node of a list of marks does: exec.do.
-/
import Derived.Test.YtcohcmlidmaaoaaGreatMA3
set_option linter.unusedSimpArgs false
set_option linter.unusedVariables false
set_option maxRecDepth 100000
namespace Go.Proofs.YtcohcmlidmaaoaaGreat
open AM
section
variable {D : MD} {s : St} {h h' h'' : H} {br : Nat} {fuel g0 : Int} {x : Value} {ov : Bool}
theorem number_no {n : Nd} {K : Value → H → Prop} {b : Nat} (hop : n.op = 7 ∨ n.op = 8 ∨ n.op = 9 ∨ n.op = 12) (hk : K (.bool false) h) : AM.Spec Tryz.prog 88 [ptr b 0, n.val] h K := by
  refine spec_ret (fun K hk => ?_) hk
  refine F88_spec _ _ _ _ ?_
  unfold F88 F88_0
  refine ⟨rfl, fun b3 hb32 hb3 => ?_⟩
  try dsimp only
  have hs : Sub h (upd h b3 (.cells (Value.cells n.val).toList 40 .exact)) := Sub.new hb3
  have hl : cellAt (upd h b3 (.cells (Value.cells n.val).toList 40 .exact)) b3 0 = some (.int .i64 n.op) := by rw [cellAt_of (upd_same _ _ _)]; rfl
  have hk1 := hk _ hs
  generalize upd h b3 (.cells (Value.cells n.val).toList 40 .exact) = h1 at *
  have d : ∀ k : Int, n.op ≠ k → decide (n.op = k) = false := fun k hk => by simp [hk]
  unfold F88_1 F88_2
  try dsimp only
  rw [field_addr, load_cell hl]
  unfold F88_3 F88_4
  try dsimp only
  rw [bin_eql, d 1 (by omega)]
  unfold F88_5
  try dsimp only
  rw [if_false']
  unfold F88_7
  try dsimp only
  rw [bin_eql, d 2 (by omega)]
  unfold F88_8
  try dsimp only
  rw [if_false']
  unfold F88_10
  try dsimp only
  rw [bin_eql, d 3 (by omega)]
  unfold F88_11
  try dsimp only
  rw [if_false']
  unfold F88_13
  try dsimp only
  rw [bin_eql, d 4 (by omega)]
  unfold F88_14
  try dsimp only
  rw [if_false']
  unfold F88_18
  try dsimp only
  rw [bin_eql, d 5 (by omega)]
  unfold F88_19
  try dsimp only
  rw [if_false']
  exact hk1
theorem labels_no {n : Nd} {K : Value → H → Prop} {b : Nat} (hop : n.op = 7 ∨ n.op = 8 ∨ n.op = 9 ∨ n.op = 12) (hk : K (.bool false) h) : AM.Spec Tryz.prog 89 [ptr b 0, n.val] h K := by
  refine spec_ret (fun K hk => ?_) hk
  refine F89_spec _ _ _ _ ?_
  unfold F89 F89_0
  refine ⟨rfl, fun b3 hb32 hb3 => ?_⟩
  try dsimp only
  have hs : Sub h (upd h b3 (.cells (Value.cells n.val).toList 40 .exact)) := Sub.new hb3
  have hl : cellAt (upd h b3 (.cells (Value.cells n.val).toList 40 .exact)) b3 0 = some (.int .i64 n.op) := by rw [cellAt_of (upd_same _ _ _)]; rfl
  have hk1 := hk _ hs
  generalize upd h b3 (.cells (Value.cells n.val).toList 40 .exact) = h1 at *
  have d : ∀ k : Int, n.op ≠ k → decide (n.op = k) = false := fun k hk => by simp [hk]
  unfold F89_1 F89_2
  try dsimp only
  rw [field_addr, load_cell hl]
  unfold F89_3 F89_4
  try dsimp only
  rw [bin_eql, d 14 (by omega)]
  unfold F89_5
  try dsimp only
  rw [if_false']
  unfold F89_12
  try dsimp only
  rw [bin_eql, d 15 (by omega)]
  unfold F89_13
  try dsimp only
  rw [if_false']
  unfold F89_15
  try dsimp only
  rw [bin_eql, d 16 (by omega)]
  unfold F89_16
  try dsimp only
  rw [if_false']
  unfold F89_18
  try dsimp only
  rw [bin_eql, d 17 (by omega)]
  unfold F89_19
  try dsimp only
  rw [if_false']
  unfold F89_22
  try dsimp only
  rw [bin_eql, d 19 (by omega)]
  unfold F89_23
  try dsimp only
  rw [if_false']
  exact hk1
theorem number_const {K : Value → H → Prop} {p : Int} (hm : MH D s h) (hr : RH D br fuel g0 x ov h) (hk : ∀ h', MH D s h' → RH D br fuel g0 (.int .u32 p) ov h' → Keep D br h h' → K (.bool true) h') : AM.Spec Tryz.prog 88 [ptr br 0, Nd.val ⟨1, 1, 0, 0, p⟩] h K := by
  refine F88_spec _ _ _ _ ?_
  unfold F88 F88_0
  refine ⟨rfl, fun b3 hb32 hb3 => ?_⟩
  try dsimp only
  have hr1 := hr.newb (o := .cells (Value.cells (Nd.val ⟨1, 1, 0, 0, p⟩)).toList 40 .exact) hb3
  have hm1 := hm.newb (o := .cells (Value.cells (Nd.val ⟨1, 1, 0, 0, p⟩)).toList 40 .exact) hb3
  have hk1 : Keep D br h (upd h b3 (.cells (Value.cells (Nd.val ⟨1, 1, 0, 0, p⟩)).toList 40 .exact)) := Keep.new hb3
  have hl : ∀ i, cellAt (upd h b3 (.cells (Value.cells (Nd.val ⟨1, 1, 0, 0, p⟩)).toList 40 .exact)) b3 i = (Nd.cells ⟨1, 1, 0, 0, p⟩)[i]? := fun i => by rw [cellAt_of (upd_same _ _ _)]; rfl
  have hl0 := hl 0
  have hl1 := hl 1
  have hl4 := hl 4
  generalize upd h b3 (.cells (Value.cells (Nd.val ⟨1, 1, 0, 0, p⟩)).toList 40 .exact) = h1 at *
  unfold F88_1 F88_2
  try dsimp only
  rw [field_addr, load_cell (v := .int .i64 1) hl0]
  unfold F88_3 F88_4
  try dsimp only
  rw [bin_eql]
  unfold F88_5
  have d : decide ((1 : Int) = 1) = true := rfl
  rw [d, if_true']
  unfold F88_6
  try dsimp only
  rw [field_addr, load_cell (v := .int .i64 1) hl1, field_addr, load_cell (v := .int .u32 p) hl4]
  refine ⟨rfl, put_spec hm1 hr1 fun h2 a1 a2 a3 => ?_⟩
  exact hk _ a1 a2 (hk1.trans a3)
theorem place_jump {K : Value → H → Prop} {v : Int} (h0 : 0 ≤ v) (h4 : v % 4 = 0) (hm : MH D s h) (hr : RH D br fuel g0 x ov h)
    (hk : ∀ h', MH D ⟨v, s.ret, s.g⟩ h' → RH D br fuel g0 x true h' → Keep D br h h' → K (.tuple #[]) h') : AM.Spec Tryz.prog 94 [ptr br 0, Nd.val ⟨12, 0, 0, 0, v⟩] h K := by
  refine F94_spec _ _ _ _ ?_
  unfold F94 F94_0
  refine ⟨rfl, fun b3 hb32 hb3 => ?_⟩
  try dsimp only
  have hr1 := hr.newb (o := .cells (Value.cells (Nd.val ⟨12, 0, 0, 0, v⟩)).toList 40 .exact) hb3
  have hm1 := hm.newb (o := .cells (Value.cells (Nd.val ⟨12, 0, 0, 0, v⟩)).toList 40 .exact) hb3
  have hk1 : Keep D br h (upd h b3 (.cells (Value.cells (Nd.val ⟨12, 0, 0, 0, v⟩)).toList 40 .exact)) := Keep.new hb3
  have hl : ∀ i, cellAt (upd h b3 (.cells (Value.cells (Nd.val ⟨12, 0, 0, 0, v⟩)).toList 40 .exact)) b3 i = (Nd.cells ⟨12, 0, 0, 0, v⟩)[i]? := fun i => by rw [cellAt_of (upd_same _ _ _)]; rfl
  have hl0 := hl 0
  have hl4 := hl 4
  generalize upd h b3 (.cells (Value.cells (Nd.val ⟨12, 0, 0, 0, v⟩)).toList 40 .exact) = h1 at *
  try dsimp only
  rw [field_addr, load_cell (v := .int .i64 12) hl0]
  have d10 : decide ((12 : Int) = 10) = false := rfl
  have d11 : decide ((12 : Int) = 11) = false := rfl
  have d12 : decide ((12 : Int) = 12) = true := rfl
  unfold F94_1 F94_2
  try dsimp only
  rw [bin_eql, d10]
  unfold F94_3
  try dsimp only
  rw [if_false']
  unfold F94_7
  try dsimp only
  rw [bin_eql, d11]
  unfold F94_8
  try dsimp only
  rw [if_false']
  unfold F94_10
  try dsimp only
  rw [bin_eql, d12]
  unfold F94_11
  try dsimp only
  rw [if_true']
  unfold F94_12
  try dsimp only
  rw [field_addr, load_cell (v := .int .u32 v) hl4]
  refine ⟨rfl, goes_spec h0 h4 hm1 hr1 fun h2 a1 a2 a3 => ?_⟩
  exact hk _ a1 a2 (hk1.trans a3)
theorem store_node {K : Value → H → Prop} {a : Int} (ha : a = 4200 ∨ a = 65536) (hm : MH D s h) (hr : RH D br fuel g0 (.int .u32 a) ov h)
    (hk : ∀ h', MH D (stored s a) h' → RH D br fuel g0 (.int .u32 a) ov h' → Keep D br h h' → K (.tuple #[]) h') : AM.Spec Tryz.prog 91 [ptr br 0, Nd.val ⟨7, 0, 1, 1, 4⟩] h K := by
  refine F91_spec _ _ _ _ ?_
  unfold F91 F91_0
  refine ⟨rfl, fun b3 hb32 hb3 => ?_⟩
  try dsimp only
  have hr1 := hr.newb (o := .cells (Value.cells (Nd.val ⟨7, 0, 1, 1, 4⟩)).toList 40 .exact) hb3
  have hm1 := hm.newb (o := .cells (Value.cells (Nd.val ⟨7, 0, 1, 1, 4⟩)).toList 40 .exact) hb3
  have hk1 : Keep D br h (upd h b3 (.cells (Value.cells (Nd.val ⟨7, 0, 1, 1, 4⟩)).toList 40 .exact)) := Keep.new hb3
  have hl : ∀ i, cellAt (upd h b3 (.cells (Value.cells (Nd.val ⟨7, 0, 1, 1, 4⟩)).toList 40 .exact)) b3 i = (Nd.cells ⟨7, 0, 1, 1, 4⟩)[i]? := fun i => by rw [cellAt_of (upd_same _ _ _)]; rfl
  have hl0 := hl 0
  have hl2 := hl 2
  have hl3 := hl 3
  have hl4 := hl 4
  generalize upd h b3 (.cells (Value.cells (Nd.val ⟨7, 0, 1, 1, 4⟩)).toList 40 .exact) = h1 at *
  have c := hr1.cell
  have d := hm1.cell
  unfold F91_1 F91_2
  try dsimp only
  rw [field_addr, load_cell (v := .int .i64 1) hl2, nil_ptr, field_addr, index_arr (by decide) (by decide)]
  have e : 0 + 5 + (1 : Int).toNat * 1 = 6 := rfl
  rw [e, load_cell c.2.2.2.2.1]
  unfold F91_3 F91_4
  obtain ⟨w, hw⟩ := load_spec ha hm1
  refine ⟨br, b3, D.m, D.q, a, w, rfl, rfl, rfl, c.1, hl4, d.1, hw, ?_⟩
  unfold F91_6
  have d0 : (!decide ((0 : Int) = 0)) = false := rfl
  try dsimp only
  rw [bin_neq, d0, if_false']
  unfold F91_7 F91_8
  have d18 : decide ((7 : Int) = 18) = false := rfl
  try dsimp only
  rw [field_addr, load_cell (v := .int .i64 7) hl0, bin_eql, d18]
  unfold F91_9
  try dsimp only
  rw [if_false']
  unfold F91_13
  refine ⟨br, b3, D.m, D.q, a, a, rfl, rfl, rfl, c.1, hl4, hl3, c.2.2.2.2.1, d.1, ?_⟩
  refine store_spec ha hm1 fun h2 a1 a2 => ?_
  refine hk _ a1 (hr1.keep (a2 _ hr.ne)) (hk1.trans fun b q1 q2 q3 => a2 b q1)
/-- The five kinds. -/
theorem do_const {K : Value → H → Prop} {p : Int} (hm : MH D s h) (hr : RH D br fuel g0 x ov h) (hk : ∀ h', MH D s h' → RH D br fuel g0 (.int .u32 p) ov h' → Keep D br h h' → K (.tuple #[]) h') : AM.Spec Tryz.prog 54 [ptr br 0, Nd.val ⟨1, 1, 0, 0, p⟩] h K := by
  refine F54_spec _ _ _ _ ?_
  unfold F54 F54_0
  refine ⟨rfl, fun b3 hb32 hb3 => ?_⟩
  try dsimp only
  have hr1 := hr.newb (o := .cells (Value.cells (Nd.val ⟨1, 1, 0, 0, p⟩)).toList 40 .exact) hb3
  have hm1 := hm.newb (o := .cells (Value.cells (Nd.val ⟨1, 1, 0, 0, p⟩)).toList 40 .exact) hb3
  have hk1 : Keep D br h (upd h b3 (.cells (Value.cells (Nd.val ⟨1, 1, 0, 0, p⟩)).toList 40 .exact)) := Keep.new hb3
  rw [load_aggU (by rfl)]
  generalize upd h b3 (.cells (Value.cells (Nd.val ⟨1, 1, 0, 0, p⟩)).toList 40 .exact) = h1 at *
  refine ⟨rfl, number_const (p := p) hm1 hr1 fun h2 a1 a2 a3 => ?_⟩
  rw [guard_tf, pick_true, if_true']
  exact hk _ a1 a2 (hk1.trans a3)
theorem do_other {n : Nd} {K : Value → H → Prop} (hop : n.op = 7 ∨ n.op = 8 ∨ n.op = 9 ∨ n.op = 12) (hm : MH D s h) (hr : RH D br fuel g0 x ov h)
    (hk : ∀ b3 h1, MH D s h1 → RH D br fuel g0 x ov h1 → Keep D br h h1 → cellsAt h1 b3 0 5 = some n.cells → F54_5 (ptr br 0) (ptr b3 0) (.int .i64 n.op) h1 (fun h => K (.tuple #[]) h) (fun h => K (.tuple #[]) h) (fun h => K (.tuple #[]) h)) : AM.Spec Tryz.prog 54 [ptr br 0, n.val] h K := by
  refine F54_spec _ _ _ _ ?_
  unfold F54 F54_0
  refine ⟨rfl, fun b3 hb32 hb3 => ?_⟩
  try dsimp only
  have hr1 := hr.newb (o := .cells (Value.cells n.val).toList 40 .exact) hb3
  have hm1 := hm.newb (o := .cells (Value.cells n.val).toList 40 .exact) hb3
  have hk1 : Keep D br h (upd h b3 (.cells (Value.cells n.val).toList 40 .exact)) := Keep.new hb3
  have hca : cellsAt (upd h b3 (.cells (Value.cells n.val).toList 40 .exact)) b3 0 5 = some n.cells := by rw [cellsAt_of (upd_same _ _ _) (Nat.le_refl 5)]; rfl
  have hc0 : cellAt (upd h b3 (.cells (Value.cells n.val).toList 40 .exact)) b3 0 = some (.int .i64 n.op) := by rw [cellAt_of (upd_same _ _ _)]; rfl
  generalize upd h b3 (.cells (Value.cells n.val).toList 40 .exact) = h1 at *
  try dsimp only
  rw [load_agg hca]
  refine ⟨rfl, number_no hop ?_⟩
  rw [guard_ff]
  try dsimp only
  rw [load_agg hca]
  refine ⟨rfl, labels_no hop ?_⟩
  rw [pick_false, if_false', field_addr, load_cell hc0]
  unfold F54_1 F54_2
  have d6 : decide (n.op = 6) = false := by simp; omega
  try dsimp only
  rw [bin_eql, d6]
  unfold F54_3
  try dsimp only
  rw [if_false']
  exact hk b3 h1 hm1 hr1 hk1 hca
theorem do_mark {K : Value → H → Prop} {v : Int} (hm : MH D s h) (hr : RH D br fuel g0 x false h)
    (hk : ∀ h', MH D ⟨v, s.ret, s.g⟩ h' → RH D br fuel g0 x (decide (fuel ≤ s.ret) || !decide (s.g = g0)) h' → Keep D br h h' → K (.tuple #[]) h') : AM.Spec Tryz.prog 54 [ptr br 0, Nd.val ⟨8, 0, 0, 0, v⟩] h K := by
  refine do_other (.inr (.inl rfl)) hm hr fun b3 h1 hm1 hr1 hk1 hca => ?_
  unfold F54_5
  rw [F54_6_or]
  unfold F54_7
  have d1 : (decide ((8 : Int) = 7) || decide ((8 : Int) = 18)) = false := rfl
  have d2 : decide ((8 : Int) = 8) = true := rfl
  rw [d1, if_false', bin_eql, d2, if_true', load_agg hca]
  exact ⟨rfl, mark_spec hm1 hr1 fun h2 a1 a2 a3 => hk _ a1 a2 (hk1.trans a3)⟩
theorem do_store {K : Value → H → Prop} {a : Int} (ha : a = 4200 ∨ a = 65536) (hm : MH D s h) (hr : RH D br fuel g0 (.int .u32 a) ov h)
    (hk : ∀ h', MH D (stored s a) h' → RH D br fuel g0 (.int .u32 a) ov h' → Keep D br h h' → K (.tuple #[]) h') : AM.Spec Tryz.prog 54 [ptr br 0, Nd.val ⟨7, 0, 1, 1, 4⟩] h K := by
  refine do_other (.inl rfl) hm hr fun b3 h1 hm1 hr1 hk1 hca => ?_
  unfold F54_5
  rw [F54_6_or]
  unfold F54_7
  have d1 : (decide ((7 : Int) = 7) || decide ((7 : Int) = 18)) = true := rfl
  rw [d1, if_true', load_agg hca]
  exact ⟨rfl, store_node ha hm1 hr1 fun h2 a1 a2 a3 => hk _ a1 a2 (hk1.trans a3)⟩
theorem do_jump {K : Value → H → Prop} {v : Int} (h0 : 0 ≤ v) (h4 : v % 4 = 0) (hm : MH D s h) (hr : RH D br fuel g0 x ov h)
    (hk : ∀ h', MH D ⟨v, s.ret, s.g⟩ h' → RH D br fuel g0 x true h' → Keep D br h h' → K (.tuple #[]) h') : AM.Spec Tryz.prog 54 [ptr br 0, Nd.val ⟨12, 0, 0, 0, v⟩] h K := by
  refine do_other (.inr (.inr (.inr rfl))) hm hr fun b3 h1 hm1 hr1 hk1 hca => ?_
  unfold F54_5
  rw [F54_6_or]
  unfold F54_7
  have d1 : (decide ((12 : Int) = 7) || decide ((12 : Int) = 18)) = false := rfl
  have d2 : decide ((12 : Int) = 8) = false := rfl
  have d3 : decide ((12 : Int) = 9) = false := rfl
  have d4 : decide ((12 : Int) = 20) = false := rfl
  rw [d1, if_false', bin_eql, d2, if_false', bin_eql, d3, if_false', bin_eql, d4, if_false', load_agg hca]
  exact ⟨rfl, place_jump h0 h4 hm1 hr1 fun h2 a1 a2 a3 => hk _ a1 a2 (hk1.trans a3)⟩
theorem do_done {K : Value → H → Prop} (hm : MH D s h) (hr : RH D br fuel g0 x ov h)
    (hk : ∀ h', MH D ⟨s.pc, IntKind.i64.wrap (s.ret + 1), s.g⟩ h' → RH D br fuel g0 x ov h' → Keep D br h h' → K (.tuple #[]) h') : AM.Spec Tryz.prog 54 [ptr br 0, Nd.val ⟨9, 0, 0, 0, 0⟩] h K := by
  refine do_other (.inr (.inr (.inl rfl))) hm hr fun b3 h1 hm1 hr1 hk1 hca => ?_
  unfold F54_5
  rw [F54_6_or]
  unfold F54_7
  have d1 : (decide ((9 : Int) = 7) || decide ((9 : Int) = 18)) = false := rfl
  have d2 : decide ((9 : Int) = 8) = false := rfl
  have d3 : decide ((9 : Int) = 9) = true := rfl
  rw [d1, if_false', bin_eql, d2, if_false', bin_eql, d3, if_true']
  obtain ⟨cs, E, hb, hlen, hm2⟩ := hm1.setRet (IntKind.i64.wrap (s.ret + 1))
  simp only [nil_ptr, field_addr, Nat.zero_add, Nat.add_zero, load_cell hr1.cell.1, Nat.reduceAdd, load_cell hm1.cell.2.2, bin_add]
  rw [store_ok hb (by simp) (by rfl) (by rfl) (by omega)]
  exact hk _ hm2 (hr1.blk m_in) (hk1.trans (Keep.bl m_in))
end
end Go.Proofs.YtcohcmlidmaaoaaGreat
