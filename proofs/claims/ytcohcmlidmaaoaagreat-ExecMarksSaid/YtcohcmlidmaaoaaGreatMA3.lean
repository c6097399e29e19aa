/-
  What each kind of node does to a machine and to the list's own state.
-/
import Derived.Test.YtcohcmlidmaaoaaGreatMA2
set_option linter.unusedSimpArgs false
set_option linter.unusedVariables false
set_option maxRecDepth 100000
namespace Go.Proofs.YtcohcmlidmaaoaaGreat
open AM
/-- The cells of a list that is done. -/
structure RCs (m : Nat) (fuel g0 : Int) (x : Value) (ov : Bool) (cs : List Value) : Prop where
  len : cs.length = 1291
  c0 : cs[0]? = some (ptr m 0)
  c1 : cs[1]? = some (.int .i64 fuel)
  c3 : cs[3]? = some (.int .u32 4096)
  c4 : cs[4]? = some (.int .u32 g0)
  c6 : cs[6]? = some x
  ov : cs[1285]? = some (.bool ov)
  e0 : cs[1286]? = some (.int .i64 0)
  e1 : cs[1287]? = some (.int .u32 0)
  e2 : cs[1288]? = some (.int .i64 0)
  e3 : cs[1289]? = some (.int .i64 0)
  e4 : cs[1290]? = some (.bool false)
structure RH (D : MD) (br : Nat) (fuel g0 : Int) (x : Value) (ov : Bool) (h : H) : Prop where
  ne : br ∉ D.bl
  ex : ∃ cs E, h br = some (.cells cs E .exact) ∧ RCs D.m fuel g0 x ov cs
def Keep (D : MD) (br : Nat) (h h' : H) : Prop := ∀ b, b ∉ D.bl → b ≠ br → h b ≠ none → h' b = h b
def endL : List Value := [.int .i64 0, .int .u32 0, .int .i64 0, .int .i64 0, .bool false]
def endV : Value := .agg #[.int .i64 0, .int .u32 0, .int .i64 0, .int .i64 0, .bool false]
theorem endL_eq : Value.agg endL.toArray = endV := rfl
section
variable {D : MD} {s : St} {h h' h'' : H} {br : Nat} {fuel g0 : Int} {x : Value} {ov : Bool}
theorem RH.keep (hr : RH D br fuel g0 x ov h) (he : h' br = h br) : RH D br fuel g0 x ov h' := ⟨hr.ne, by rw [he]; exact hr.ex⟩
theorem RH.isThere (hr : RH D br fuel g0 x ov h) : h br ≠ none := by
  obtain ⟨cs, E, hb, _⟩ := hr.ex; rw [hb]; simp
theorem Keep.refl : Keep D br h h := fun _ _ _ _ => rfl
theorem Keep.trans (h1 : Keep D br h h') (h2 : Keep D br h' h'') : Keep D br h h'' := fun b a1 a2 a3 => by
  have := h1 b a1 a2 a3
  rw [h2 b a1 a2 (by rw [this]; exact a3), this]
theorem Keep.new {b : Nat} {o : AObj} (hb : h b = none) : Keep D br h (upd h b o) := fun c _ _ h3 => upd_ne _ _ fun e => h3 (e ▸ hb)
theorem Keep.bl {b : Nat} {o : AObj} (hb : b ∈ D.bl) : Keep D br h (upd h b o) := fun c h1 _ _ => upd_ne _ _ fun e => h1 (e ▸ hb)
theorem Keep.atBr {o : AObj} : Keep D br h (upd h br o) := fun c _ h2 _ => upd_ne _ _ h2
theorem RH.cell (hr : RH D br fuel g0 x ov h) : cellAt h br 0 = some (ptr D.m 0) ∧ cellAt h br 1 = some (.int .i64 fuel) ∧ cellAt h br 3 = some (.int .u32 4096) ∧ cellAt h br 4 = some (.int .u32 g0) ∧ cellAt h br 6 = some x ∧ cellAt h br 1285 = some (.bool ov) := by
  obtain ⟨cs, E, hb, hc⟩ := hr.ex
  simp only [cellAt_of hb]
  exact ⟨hc.c0, hc.c1, hc.c3, hc.c4, hc.c6, hc.ov⟩
theorem MH.cell (hm : MH D s h) : cellAt h D.m 0 = some (ptr D.q 0) ∧ cellAt h D.m 34 = some (.int .u32 s.pc) ∧ cellAt h D.m 35 = some (.int .i64 s.ret) := by
  obtain ⟨cs, E, hb, _, h0, h1, h2⟩ := hm.m
  simp only [cellAt_of hb]
  exact ⟨h0, h1, h2⟩
theorem RH.newb (hr : RH D br fuel g0 x ov h) {b : Nat} {o : AObj} (hb : h b = none) : RH D br fuel g0 x ov (upd h b o) := hr.keep (upd_ne _ _ fun e => hr.isThere (e ▸ hb))
theorem RH.blk (hr : RH D br fuel g0 x ov h) {b : Nat} {o : AObj} (hb : b ∈ D.bl) : RH D br fuel g0 x ov (upd h b o) := hr.keep (upd_ne _ _ fun e => hr.ne (e ▸ hb))
theorem MH.newb (hm : MH D s h) {b : Nat} {o : AObj} (hb : h b = none) : MH D s (AM.upd h b o) := hm.upd (hm.fresh hb)
theorem MH.setPc (hm : MH D s h) (v : Int) : ∃ cs E, h D.m = some (.cells cs E .exact) ∧ cs.length = 171 ∧ MH D ⟨v, s.ret, s.g⟩ (AM.upd h D.m (.cells (setL cs 34 [.int .u32 v]) E .exact)) := by
  obtain ⟨cs, E, hb, hl, h0, h1, h2⟩ := hm.m
  refine ⟨cs, E, hb, hl, hm.setM (cs := setL cs 34 [.int .u32 v]) (E := E) rfl rfl (by simpa [setL] using hl) ?_ ?_ ?_⟩
  · simp [setL, h0]
  · simp [setL, hl]
  · simp [setL, h2]
theorem MH.setRet (hm : MH D s h) (v : Int) : ∃ cs E, h D.m = some (.cells cs E .exact) ∧ cs.length = 171 ∧ MH D ⟨s.pc, v, s.g⟩ (AM.upd h D.m (.cells (setL cs 35 [.int .i64 v]) E .exact)) := by
  obtain ⟨cs, E, hb, hl, h0, h1, h2⟩ := hm.m
  refine ⟨cs, E, hb, hl, hm.setM (cs := setL cs 35 [.int .i64 v]) (E := E) rfl rfl (by simpa [setL] using hl) ?_ ?_ ?_⟩
  · simp [setL, h0]
  · simp [setL, h1]
  · simp [setL, hl]
theorem m_in : D.m ∈ D.bl := by simp [MD.bl]

theorem gs_out : ∀ {vs cs : List Value} {o i : Nat}, (i < o ∨ o + vs.length ≤ i) → (setL cs o vs)[i]? = cs[i]?
  | [], _, _, _, _ => rfl
  | v :: vs, cs, o, i, h => by
    rw [setL, gs_out (by simp only [List.length_cons] at h; omega), List.getElem?_set_ne (by simp only [List.length_cons] at h; omega)]
theorem gs_in : ∀ {vs cs : List Value} {o i : Nat}, o ≤ i → i < o + vs.length → o + vs.length ≤ cs.length → (setL cs o vs)[i]? = vs[i - o]?
  | [], _, _, _, h1, h2, _ => by simp at h2; omega
  | v :: vs, cs, o, i, h1, h2, h3 => by
    simp only [List.length_cons] at h2 h3
    rw [setL]
    by_cases he : o = i
    · subst he
      rw [gs_out (.inl (by omega)), List.getElem?_set_self (by omega)]; simp
    · rw [gs_in (by omega) (by omega) (by simp; omega)]
      have : i - o = (i - (o + 1)) + 1 := by omega
      rw [this, List.getElem?_cons_succ]
theorem finish_spec {K : Value → H → Prop} (hm : MH D s h) (hr : RH D br fuel g0 x ov h) (hk : ∀ h', MH D s h' → RH D br fuel g0 x true h' → Keep D br h h' → K (.tuple #[]) h') : AM.Spec Tryz.prog 136 [ptr br 0, endV] h K := by
  refine F136_spec _ _ _ _ ?_
  unfold F136 F136_0
  refine ⟨rfl, fun b3 hb32 hb3 => ?_⟩
  have hr1 := hr.newb (o := .cells (Value.cells endV).toList 47 .exact) hb3
  have hm1 := hm.newb (o := .cells (Value.cells endV).toList 47 .exact) hb3
  have hne : b3 ≠ br := fun e => hr.isThere (e ▸ hb3)
  have hk1 : Keep D br h (upd h b3 (.cells (Value.cells endV).toList 47 .exact)) := Keep.new hb3
  have hl : cellsAt (upd h b3 (.cells (Value.cells endV).toList 47 .exact)) b3 0 5 = some endL := by rw [cellsAt_of (upd_same _ _ _) (by decide)]; rfl
  generalize upd h b3 (.cells (Value.cells endV).toList 47 .exact) = h1 at *
  obtain ⟨cs, E, hb, hc⟩ := hr1.ex
  refine ⟨br, b3, cs, endL, E, rfl, rfl, hne, hb, hc.len, hl, rfl, ?_⟩
  show K (.tuple #[]) _
  refine hk _ (hm1.upd hr.ne) ⟨hr.ne, _, _, upd_same _ _ _, ?_⟩ (hk1.trans Keep.atBr)
  have hlen := hc.len
  have out : ∀ i v, i < 1285 → cs[i]? = some v → (setL (setL cs 1285 [Value.bool true]) 1286 endL)[i]? = some v := fun i v hi hv => by
    rw [gs_out (.inl (by omega)), gs_out (.inl (by omega))]; exact hv
  have inn : ∀ i, i < 5 → (setL (setL cs 1285 [Value.bool true]) 1286 endL)[1286 + i]? = endL[i]? := fun i hi => by
    rw [gs_in (by omega) (by simp [endL]; omega) (by rw [setL_length]; simp [endL]; omega)]
    congr 1; omega
  refine ⟨by rw [setL_length, setL_length]; exact hlen, out _ _ (by decide) hc.c0, out _ _ (by decide) hc.c1, out _ _ (by decide) hc.c3, out _ _ (by decide) hc.c4, out _ _ (by decide) hc.c6, ?_, inn 0 (by decide), inn 1 (by decide), inn 2 (by decide), inn 3 (by decide), inn 4 (by decide)⟩
  rw [gs_out (.inl (by decide)), gs_in (by decide) (by decide) (by simp; omega)]; rfl
theorem put_spec {K : Value → H → Prop} {p : Int} (hm : MH D s h) (hr : RH D br fuel g0 x ov h) (hk : ∀ h', MH D s h' → RH D br fuel g0 (.int .u32 p) ov h' → Keep D br h h' → K (.tuple #[]) h') : AM.Spec Tryz.prog 122 [ptr br 0, .int .i64 1, .int .u32 p] h K := by
  refine F122_spec _ _ _ _ _ ?_
  unfold F122
  obtain ⟨cs, E, hb, hc⟩ := hr.ex
  refine ⟨br, cs, E, rfl, rfl, rfl, rfl, hb, hc.len, ?_⟩
  show K (.tuple #[]) _
  refine hk _ (hm.upd hr.ne) ⟨hr.ne, _, _, upd_same _ _ _, ?_⟩ Keep.atBr
  have hlen := hc.len
  have out : ∀ i v, (i < 6 ∨ 269 ≤ i) → cs[i]? = some v → (setL (setL cs 6 [Value.int .u32 p]) 265 [.int .u8 0, .int .u8 0, .int .u8 0, .int .u8 0])[i]? = some v := fun i v hi hv => by
    rw [gs_out (by simp; omega), gs_out (by simp; omega)]; exact hv
  refine ⟨by rw [setL_length, setL_length]; exact hlen, out _ _ (by decide) hc.c0, out _ _ (by decide) hc.c1, out _ _ (by decide) hc.c3, out _ _ (by decide) hc.c4, ?_, out _ _ (by decide) hc.ov, out _ _ (by decide) hc.e0, out _ _ (by decide) hc.e1, out _ _ (by decide) hc.e2, out _ _ (by decide) hc.e3, out _ _ (by decide) hc.e4⟩
  rw [gs_out (.inl (by decide)), gs_in (by decide) (by simp) (by simp; omega)]; rfl
theorem build_end {K : Value → Prop} : o_build Tryz.prog 47 [] K = K endV := by kernel_rfl
theorem mark_spec {K : Value → H → Prop} {v : Int} (hm : MH D s h) (hr : RH D br fuel g0 x false h)
    (hk : ∀ h', MH D ⟨v, s.ret, s.g⟩ h' → RH D br fuel g0 x (decide (fuel ≤ s.ret) || !decide (s.g = g0)) h' → Keep D br h h' → K (.tuple #[]) h') : AM.Spec Tryz.prog 92 [ptr br 0, Nd.val ⟨8, 0, 0, 0, v⟩] h K := by
  refine F92_spec _ _ _ _ ?_
  unfold F92 F92_0
  refine ⟨rfl, fun b3 hb32 hb3 => ?_⟩
  have hr1 := hr.newb (o := .cells (Value.cells (Nd.val ⟨8, 0, 0, 0, v⟩)).toList 40 .exact) hb3
  have hm1 := hm.newb (o := .cells (Value.cells (Nd.val ⟨8, 0, 0, 0, v⟩)).toList 40 .exact) hb3
  have hk1 : Keep D br h (upd h b3 (.cells (Value.cells (Nd.val ⟨8, 0, 0, 0, v⟩)).toList 40 .exact)) := Keep.new hb3
  have hl : cellAt (upd h b3 (.cells (Value.cells (Nd.val ⟨8, 0, 0, 0, v⟩)).toList 40 .exact)) b3 4 = some (.int .u32 v) := by rw [cellAt_of (upd_same _ _ _)]; rfl
  generalize upd h b3 (.cells (Value.cells (Nd.val ⟨8, 0, 0, 0, v⟩)).toList 40 .exact) = h1 at *
  unfold F92_1 F92_2 F92_3
  obtain ⟨cs, E, hb, hlen, hm2⟩ := hm1.setPc v
  have hr2 := hr1.blk (o := .cells (setL cs 34 [.int .u32 v]) E .exact) m_in
  have hk2 := hk1.trans (Keep.bl (br := br) (h := h1) (o := .cells (setL cs 34 [.int .u32 v]) E .exact) (m_in (D := D)))
  simp only [nil_ptr, field_addr, Nat.zero_add, Nat.add_zero, load_cell hr1.cell.1, load_cell hl, Nat.reduceAdd]
  rw [store_ok hb (by simp) (by rfl) (by rfl) (by omega)]
  show F92_4 _ (upd h1 D.m (.cells (setL cs 34 [.int .u32 v]) E .exact)) _ _
  generalize upd h1 D.m (.cells (setL cs 34 [.int .u32 v]) E .exact) = h2 at *
  have c := hr2.cell
  have d := hm2.cell
  refine ⟨br, D.m, D.q, s.ret, fuel, 4096, g0, s.g, rfl, c.1, d.2.2, c.2.1, c.2.2.1, c.2.2.2.1, d.1, fun Q hq => gen_spec hm2 hq, ?_⟩
  unfold F92_5
  cases hd : (decide (fuel ≤ s.ret) || !decide (s.g = g0))
  · rw [if_false']
    exact hk _ hm2 (by rw [hd]; exact hr2) hk2
  · rw [if_true', build_end]
    refine ⟨rfl, finish_spec hm2 hr2 fun h3 a1 a2 a3 => ?_⟩
    exact hk _ a1 (by rw [hd]; exact a2) (hk2.trans a3)
theorem goes_spec {K : Value → H → Prop} {v : Int} (h0 : 0 ≤ v) (h4 : v % 4 = 0) (hm : MH D s h) (hr : RH D br fuel g0 x ov h)
    (hk : ∀ h', MH D ⟨v, s.ret, s.g⟩ h' → RH D br fuel g0 x true h' → Keep D br h h' → K (.bool true) h') : AM.Spec Tryz.prog 139 [ptr br 0, .int .u32 v] h K := by
  refine F139_spec _ _ _ _ ?_
  unfold F139 F139_0
  have e : v.tmod 4 = 0 := by rw [Int.tmod_eq_emod_of_nonneg h0]; exact h4
  obtain ⟨cs, E, hb, hlen, hm2⟩ := hm.setPc v
  have hr2 := hr.blk (o := .cells (setL cs 34 [.int .u32 v]) E .exact) m_in
  have hk2 := Keep.bl (br := br) (h := h) (o := .cells (setL cs 34 [.int .u32 v]) E .exact) (m_in (D := D))
  have d0 : (!decide ((0 : Int) = 0)) = false := rfl
  rw [bin_rem (by decide), e, bin_neq, d0, if_false']
  simp only [nil_ptr, field_addr, Nat.zero_add, Nat.add_zero, load_cell hr.cell.1, Nat.reduceAdd]
  rw [store_ok hb (by simp) (by rfl) (by rfl) (by omega), build_end]
  refine ⟨rfl, finish_spec hm2 hr2 fun h3 a1 a2 a3 => ?_⟩
  exact hk _ a1 a2 (hk2.trans a3)
end
end Go.Proofs.YtcohcmlidmaaoaaGreat
