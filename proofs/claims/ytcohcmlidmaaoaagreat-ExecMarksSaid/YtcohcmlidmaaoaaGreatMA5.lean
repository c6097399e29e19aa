/-
  exec.Do and exec.Run at a list of marks.
-/
import Derived.Test.YtcohcmlidmaaoaaGreatMA4
import Derived.Test.YtcohcmlidmaaoaaGreatMH
set_option linter.unusedSimpArgs false
set_option linter.unusedVariables false
set_option maxRecDepth 100000
namespace Go.Proofs.YtcohcmlidmaaoaaGreat
open AM
abbrev wr : Int → Int := IntKind.i64.wrap
abbrev wg : Int → Int := IntKind.u32.wrap
section
variable {D : MD} {s : St} {h h' h'' : H} {br : Nat} {fuel g0 : Int} {x : Value} {ov : Bool}
theorem o_ret_undef {h : H} {K : H → Prop} : o_ret undef h K = K h := rfl
theorem nd_len (l : List Nd) : ∀ x ∈ l, (Nd.cells x).length = 5 := fun _ _ => rfl
theorem do_any {n : Nd} {K : Value → H → Prop} {p : Int} (hp : p = 4200 ∨ p = 65536) (hn : (Kd n ∧ x = .int .u32 p) ∨ n = ⟨1, 1, 0, 0, p⟩ ∨ ∃ v, n = ⟨8, 0, 0, 0, v⟩) (hm : MH D s h) (hr : RH D br fuel g0 x false h)
    (hk : ∀ h' x', (x = .int .u32 p → x' = .int .u32 p) → (n = ⟨1, 1, 0, 0, p⟩ → x' = .int .u32 p) → MH D (stepN wr wg fuel g0 p s n).1 h' → RH D br fuel g0 x' (stepN wr wg fuel g0 p s n).2 h' → Keep D br h h' → K (.tuple #[]) h') : AM.Spec Tryz.prog 54 [ptr br 0, n.val] h K := by
  have mark : ∀ v, n = ⟨8, 0, 0, 0, v⟩ → AM.Spec Tryz.prog 54 [ptr br 0, n.val] h K := by
    rintro v rfl
    exact do_mark hm hr fun h1 a1 a2 a3 => hk _ x id (fun e => by cases e) (by simpa [stepN] using a1) (by simpa [stepN] using a2) a3
  rcases hn with ⟨hn, rfl⟩ | rfl | ⟨v, hv⟩
  · cases hn with
    | mark v h0 h1 => exact mark v rfl
    | store => exact do_store hp hm hr fun h1 a1 a2 a3 => hk _ _ id (fun e => by cases e) (by simpa [stepN, stored] using a1) (by simpa [stepN] using a2) a3
    | done => exact do_done hm hr fun h1 a1 a2 a3 => hk _ _ id (fun e => by cases e) (by simpa [stepN] using a1) (by simpa [stepN] using a2) a3
    | jump v h0 h1 h4 => exact do_jump h0 h4 hm hr fun h1 a1 a2 a3 => hk _ _ id (fun e => by cases e) (by simpa [stepN] using a1) (by simpa [stepN] using a2) a3
  · exact do_const hm hr fun h1 a1 a2 a3 => hk _ _ (fun _ => rfl) (fun _ => rfl) (by simpa [stepN] using a1) (by simpa [stepN] using a2) a3
  · exact mark v hv
theorem RH.ends (hr : RH D br fuel g0 x ov h) : cellsAt h br 1286 5 = some endL := by
  obtain ⟨cs, E, hb, hc⟩ := hr.ex
  have hl := hc.len
  rw [cellsAt_of hb (by omega)]
  refine congrArg some (List.ext_getElem? fun i => ?_)
  by_cases hi : i < 5
  · rw [List.getElem?_take_of_lt hi, List.getElem?_drop]
    match i, hi with
    | 0, _ => exact hc.e0
    | 1, _ => exact hc.e1
    | 2, _ => exact hc.e2
    | 3, _ => exact hc.e3
    | 4, _ => exact hc.e4
  · rw [List.getElem?_eq_none (by simp; omega), List.getElem?_eq_none (by simp [endL]; omega)]
theorem runCells_ok {m : Nat} {fuel v0 g : Int} (hv : v0 = 4096) : RCs m fuel g (.int .u32 0) false (runCells m fuel v0 g) := by
  subst hv
  exact ⟨by simp [runCells], rfl, rfl, rfl, rfl, by kernel_rfl, by kernel_rfl, by kernel_rfl, by kernel_rfl, by kernel_rfl, by kernel_rfl, by kernel_rfl⟩
theorem runN_step {l : List Nd} {i : Nat} (hi : i < l.length) {p : Int} {si : St} : runN wr wg fuel g0 p (l.drop i) si = if (stepN wr wg fuel g0 p si l[i]).2 = true then (stepN wr wg fuel g0 p si l[i]).1 else runN wr wg fuel g0 p (l.drop (i + 1)) (stepN wr wg fuel g0 p si l[i]).1 := by
  rw [List.drop_eq_getElem_cons hi, runN]
theorem Do_spec {l r : List Nd} {K : Value → H → Prop} {p : Int} {lb c : Nat} {E : TypeId} {o : AM.Own} (hp : p = 4200 ∨ p = 65536) (hl : l = head p ++ r) (hr : ∀ n ∈ r, Kd n) (hlen : l.length < 1000) (hm : MH D s h) (hlb : h lb = some (.cells (l.flatMap Nd.cells) E o)) (hlD : lb ∉ D.bl)
    (hk : ∀ h', MH D (runN wr wg fuel s.g p l s) h' → (∀ b, b ∉ D.bl → h b ≠ none → h' b = h b) → K endV h') : AM.Spec Tryz.prog 16 [ptr D.m 0, .slice (some ⟨lb, 0, none⟩) l.length c, .int .i64 fuel, .bool false] h K := by
  refine F16_spec _ _ _ _ _ _ ?_
  unfold F16 F16_0
  intro b8 hb82 hb8
  try dsimp only
  have e5 : ([.int .i64 0, .int .u32 0, .int .i64 0, .int .i64 0, .bool false] : List Value) = endL := rfl
  rw [e5]
  have hm1 := hm.newb (o := .cells endL 47 .exact) hb8
  have hlb1 : upd h b8 (.cells endL 47 .exact) lb = some (.cells (l.flatMap Nd.cells) E o) := by
    rw [upd_ne _ _ (show lb ≠ b8 from fun e => by rw [e, hb8] at hlb; cases hlb)]; exact hlb
  have hb81 : upd h b8 (.cells endL 47 .exact) b8 = some (.cells endL 47 .exact) := upd_same _ _ _
  have hs1 : Sub h (upd h b8 (.cells endL 47 .exact)) := Sub.new hb8
  have hb8D := hm.fresh hb8
  generalize upd h b8 (.cells endL 47 .exact) = h1 at *
  unfold F16_1
  have hne : l ≠ [] := by rw [hl]; simp [head]
  have hpos : 0 < l.length := by rw [hl]; simp [head]
  have hc4 : cellAt h1 lb 4 = some (.int .u32 4096) := by
    rw [cellAt_of hlb1, hl]; rfl
  refine ⟨D.m, lb, D.q, l.length, c, 4096, fuel, s.g, rfl, rfl, hpos, rfl, rfl, hc4, hm1.cell.1, fun Q hq => gen_spec hm1 hq, fun br hbr2 hbr => ?_⟩
  try dsimp only
  have hrD := hm1.fresh hbr
  have hm2 := hm1.newb (o := .cells (runCells D.m fuel 4096 s.g) 169 .exact) hbr
  have hr2 : RH D br fuel s.g (.int .u32 0) false (upd h1 br (.cells (runCells D.m fuel 4096 s.g) 169 .exact)) := ⟨hrD, _, _, upd_same _ _ _, runCells_ok rfl⟩
  have hs2 : Sub h1 (upd h1 br (.cells (runCells D.m fuel 4096 s.g) 169 .exact)) := Sub.new hbr
  have hb82' := hs2 _ _ hb81
  have hlb2 := hs2 _ _ hlb1
  have hbrn : ∀ b, h b ≠ none → b ≠ br := fun b hb e => by
    cases hq : h b with
    | none => exact hb hq
    | some q => rw [e] at hq; rw [hs1 _ _ hq] at hbr; cases hbr
  have hk2 : ∀ b, b ∉ D.bl → h b ≠ none → upd h1 br (.cells (runCells D.m fuel 4096 s.g) 169 .exact) b = h b := fun b _ hb => by
    cases hq : h b with
    | none => exact absurd hq hb
    | some q => exact hs2 _ _ (hs1 _ _ hq)
  have hb8r : b8 ≠ br := fun e => by rw [e, hbr] at hb81; cases hb81
  have hlbr : lb ≠ br := fun e => by rw [e, hbr] at hlb1; cases hlb1
  generalize upd h1 br (.cells (runCells D.m fuel 4096 s.g) 169 .exact) = h2 at *
  -- what follows the loop
  have fin : ∀ h3 sf x ov, MH D sf h3 → RH D br fuel s.g x ov h3 → runN wr wg fuel s.g p l s = sf → (∀ b, b ∉ D.bl → h b ≠ none → h3 b = h b) → h3 b8 = some (.cells endL 47 .exact) →
      F16_8 (ptr b8 0) (ptr br 0) undef h3 (fun y8 y48 h => o_ret y48 h (fun h => o_load true 5 y8 h fun v => K v h)) (fun y8 y48 h => o_ret y48 h (fun h => o_load true 5 y8 h fun v => K v h)) := by
    intro h3 sf x ov a1 a2 a3 a4 a5
    unfold F16_8
    rw [nil_ptr, field_addr, Nat.zero_add, load_agg a2.ends, store_ok a5 (by simp) (by rfl) (by rfl) (Nat.le_refl 5)]
    try dsimp only
    rw [o_ret_undef]
    try dsimp only
    have e : setL endL 0 (Value.agg endL.toArray).cells.toList = endL := rfl
    rw [e, load_aggU (by rfl)]
    refine hk _ (by rw [a3]; exact a1.upd hb8D) fun b q1 q2 => ?_
    rw [upd_ne _ _ (show b ≠ b8 from fun e => q2 (e ▸ hb8))]
    exact a4 b q1 q2
  unfold F16_3 F16_4
  rw [len_sl]
  unfold F16_5 F16_6
  refine ⟨fun n st h' => ∃ (i : Nat) (si : St) (x : Value), st = (ptr b8 0, ptr br 0, .slice (some ⟨lb, 0, none⟩) l.length c, .int .i64 l.length, .int .i64 (i : Nat), undef) ∧ n = l.length - i ∧ i ≤ l.length ∧ MH D si h' ∧ RH D br fuel s.g x false h' ∧ h' lb = some (.cells (l.flatMap Nd.cells) E o) ∧ h' b8 = some (.cells endL 47 .exact) ∧ (2 ≤ i → x = .int .u32 p) ∧ runN wr wg fuel s.g p l s = runN wr wg fuel s.g p (l.drop i) si ∧ (∀ b, b ∉ D.bl → h b ≠ none → h' b = h b),
    ⟨l.length, 0, s, _, rfl, rfl, by omega, hm2, hr2, hlb2, hb82', by omega, rfl, hk2⟩, ?_⟩
  rintro n st h3 ⟨i, si, x, rfl, rfl, hi, a1, a2, a3, a4, a5, a6, a7⟩
  simp only [F16_7, bin_lss]
  by_cases hlt : i < l.length
  · have d1 : decide ((i : Int) < (l.length : Int)) = true := by simp; omega
    have hs : Sl Nd.cells 5 h3 (.slice (some ⟨lb, 0, none⟩) l.length c) l := by
      refine Sl.of_block (nd_len _) a3 ?_ ?_
      · rw [List.drop_zero, ← flat_length (nd_len _), List.take_length]
      · rw [flat_length (nd_len _)]; omega
    rw [d1, if_true']
    refine node_load hs hlt ?_
    intro b11 hb112 hb11
    rw [store_nd]
    have hm4 := a1.newb (o := .cells (l[i]).cells 40 .exact) hb11
    have hr4 := a2.newb (o := .cells (l[i]).cells 40 .exact) hb11
    have hs4 : Sub h3 (upd h3 b11 (.cells (l[i]).cells 40 .exact)) := Sub.new hb11
    rw [load_aggU (by rfl)]
    have hk4 : ∀ b, b ∉ D.bl → h b ≠ none → upd h3 b11 (.cells (l[i]).cells 40 .exact) b = h b := fun b q1 q2 => by
      have := a7 b q1 q2
      rw [upd_ne _ _ (show b ≠ b11 from fun e => q2 (by rw [← this, e]; exact hb11))]; exact this
    have l4 := hs4 _ _ a3
    have e4 := hs4 _ _ a4
    generalize upd h3 b11 (.cells (l[i]).cells 40 .exact) = h4 at *
    have hkind : (Kd l[i] ∧ x = .int .u32 p) ∨ l[i] = ⟨1, 1, 0, 0, p⟩ ∨ ∃ v, l[i] = ⟨8, 0, 0, 0, v⟩ := by
      subst hl
      match i, hlt with
      | 0, _ => exact .inr (.inr ⟨4096, rfl⟩)
      | 1, _ => exact .inr (.inl rfl)
      | j + 2, hj =>
        refine .inl ⟨?_, a5 (by omega)⟩
        have : (head p ++ r)[j + 2] = r[j]'(by simp [head] at hj; omega) := by simp [head]
        rw [this]
        exact hr _ (List.getElem_mem _)
    refine ⟨rfl, do_any hp hkind hm4 hr4 fun h5 x' q1 q2 q3 q4 q5 => ?_⟩
    rw [nil_ptr, field_addr, Nat.zero_add, load_cell q4.cell.2.2.2.2.2]
    have hstep := runN_step (fuel := fuel) (g0 := s.g) (p := p) hlt (si := si)
    have hk5 : ∀ b, b ∉ D.bl → h b ≠ none → h5 b = h b := fun b w1 w2 => by
      have := hk4 b w1 w2
      rw [q5 b w1 (hbrn b w2) (by rw [this]; exact w2)]; exact this
    have l5 : h5 lb = some (.cells (l.flatMap Nd.cells) E o) := by rw [q5 lb hlD hlbr (by rw [l4]; simp)]; exact l4
    have b5 : h5 b8 = some (.cells endL 47 .exact) := by rw [q5 b8 hb8D hb8r (by rw [e4]; simp)]; exact e4
    cases hov : (stepN wr wg fuel s.g p si l[i]).2
    · rw [if_false', bin_add]
      rw [hov] at hstep q4
      have e5 : IntKind.i64.wrap ((i : Int) + 1) = ((i + 1 : Nat) : Int) := by rw [wrap64 (by omega) (by omega)]; omega
      rw [e5]
      refine ⟨l.length - (i + 1), by omega, i + 1, _, x', rfl, rfl, by omega, q3, q4, l5, b5, fun h2i => ?_, ?_, hk5⟩
      · by_cases h1 : 2 ≤ i
        · exact q1 (a5 h1)
        · have : i = 1 := by omega
          subst this
          exact q2 (by subst hl; rfl)
      · rw [a6, hstep, if_neg (by simp)]
    · rw [if_true']
      rw [hov] at hstep
      exact fin h5 _ _ _ q3 q4 (by rw [a6, hstep, if_pos rfl]) hk5 b5
  · have d1 : decide ((i : Int) < (l.length : Int)) = false := by simp; omega
    rw [d1, if_false']
    have : i = l.length := by omega
    subst this
    rw [List.drop_length, runN] at a6
    exact fin h3 _ _ _ a1 a2 a6 a7 a4
theorem Run_spec {l r : List Nd} {K : Value → H → Prop} {p : Int} {lb c : Nat} {E : TypeId} {o : AM.Own} (hp : p = 4200 ∨ p = 65536) (hl : l = head p ++ r) (hr : ∀ n ∈ r, Kd n) (hg : goodB l = true) (hlen : l.length < 1000) (hm : MH D s h) (hlb : h lb = some (.cells (l.flatMap Nd.cells) E o)) (hlD : lb ∉ D.bl)
    (hk : ∀ h', MH D (runN wr wg fuel s.g p l s) h' → K endV h') : AM.Spec Tryz.prog 7 [ptr D.m 0, .slice (some ⟨lb, 0, none⟩) l.length c, .int .i64 fuel, .bool false] h K := by
  refine F7_spec _ _ _ _ _ _ ?_
  unfold F7 F7_0
  intro b8 hb82 hb8
  try dsimp only
  have e5 : ([.int .i64 0, .int .u32 0, .int .i64 0, .int .i64 0, .bool false] : List Value) = endL := rfl
  rw [e5]
  have hm1 := hm.newb (o := .cells endL 47 .exact) hb8
  have hlb1 : upd h b8 (.cells endL 47 .exact) lb = some (.cells (l.flatMap Nd.cells) E o) := by
    rw [upd_ne _ _ (show lb ≠ b8 from fun e => by rw [e, hb8] at hlb; cases hlb)]; exact hlb
  have hb81 : upd h b8 (.cells endL 47 .exact) b8 = some (.cells endL 47 .exact) := upd_same _ _ _
  have hb8D := hm.fresh hb8
  generalize upd h b8 (.cells endL 47 .exact) = h1 at *
  have hs : Sl Nd.cells 5 h1 (.slice (some ⟨lb, 0, none⟩) l.length c) l := by
    refine Sl.of_block (nd_len _) hlb1 ?_ ?_
    · rw [List.drop_zero, ← flat_length (nd_len _), List.take_length]
    · rw [flat_length (nd_len _)]; omega
  refine ⟨rfl, good_spec hs (by omega) ?_⟩
  rw [hg, un_not, Bool.not_true, if_false']
  refine ⟨rfl, Do_spec hp hl hr hlen hm1 hlb1 hlD fun h2 a1 a2 => ?_⟩
  have hb82 := a2 b8 hb8D (by rw [hb81]; simp)
  rw [hb81] at hb82
  rw [store_ok hb82 (by simp) (by rfl) (by rfl) (Nat.le_refl 5)]
  try dsimp only
  rw [o_ret_undef]
  try dsimp only
  have e : setL endL 0 endV.cells.toList = endL := rfl
  rw [e, load_aggU (by rfl)]
  exact hk _ (a1.upd hb8D)
end
end Go.Proofs.YtcohcmlidmaaoaaGreat
