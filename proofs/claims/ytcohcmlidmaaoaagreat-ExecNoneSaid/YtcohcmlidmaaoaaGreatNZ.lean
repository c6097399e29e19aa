/-
  Little functions of the law; what is known where two machines are held against each other.
-/
import Derived.Test.YtcohcmlidmaaoaaGreatNP
import Derived.Test.YtcohcmlidmaaoaaGreatNC
set_option linter.unusedSimpArgs false
set_option linter.unusedVariables false
set_option maxRecDepth 100000
namespace Go.Proofs.YtcohcmlidmaaoaaGreat
open Go.Proofs.YtcohcmlidmaaoaaGreat.AM
theorem o_ret_u {h : H} {K : H → Prop} : o_ret undef h K = K h := rfl
def zT : List Value := List.replicate 128 (.int .u8 0)
section
variable {h : H}
theorem upd2 {b : Nat} {q q' : AObj} : upd (upd h b q) b q' = upd h b q' := by funext c; unfold upd; split <;> rfl
theorem zero_spec {s : List Value} (hl : s.length = 34) {K : Value → H → Prop} (hk : K (.agg (s.set 0 (.int .u32 0)).toArray) h) : AM.Spec Tryz.prog 29 [.agg s.toArray] h K := by
  refine spec_ret (fun K hk => ?_) hk
  refine F29_spec _ _ _ ?_
  unfold F29 F29_0
  refine ⟨rfl, fun b1 h12 hb1 => ?_⟩
  try dsimp only
  intro b2 h22 hb2
  try dsimp only
  have hn : b2 ≠ b1 := fun e => by rw [e, upd_same] at hb2; cases hb2
  have hb20 : h b2 = none := by rw [upd_ne _ _ hn] at hb2; exact hb2
  have es : (Value.cells (.agg s.toArray)).toList = s := rfl
  rw [es]
  rw [field_addr, index_arr (by decide) (by decide)]
  have e0 : 0 + 0 + (0 : Int).toNat * 1 = 0 := rfl
  rw [e0, store_ok (by rw [upd_ne _ _ hn.symm, upd_same]) (by simp) (by rfl) (by rfl) (by omega)]
  have e1 : setL s 0 (Value.cells (.int .u32 0)).toList = s.set 0 (.int .u32 0) := rfl
  rw [e1]
  rw [load_agg (l := s.set 0 (.int .u32 0)) (by rw [cellsAt_of (upd_same _ _ _) (by simp; omega)]; simp [List.take_of_length_le, hl])]
  rw [store_ok (by rw [upd_ne _ _ hn, upd_same]) (by simp) (by rfl) (by simp [Value.cells, hl]) (by simp)]
  have e2 : (Value.cells (.agg (s.set 0 (.int .u32 0)).toArray)).toList = s.set 0 (.int .u32 0) := rfl
  rw [e2]
  try dsimp only
  rw [o_ret_u]
  try dsimp only
  have e3 : ∀ c : List Value, c.length = 34 → setL c 0 (s.set 0 (.int .u32 0)) = s.set 0 (.int .u32 0) := by
    intro c hc
    refine List.ext_getElem? fun i => ?_
    by_cases hi : i < 34
    · rw [sl_in (by omega) (by simp; omega) (by simp; omega)]; rfl
    · rw [List.getElem?_eq_none (by rw [setL_length]; omega), List.getElem?_eq_none (by simp; omega)]
  rw [e3 _ (by rfl), load_agg (l := s.set 0 (.int .u32 0)) (by rw [cellsAt_of (upd_same _ _ _) (by simp; omega)]; simp [List.take_of_length_le, hl])]
  refine hk _ fun c o hc => ?_
  have n1 : c ≠ b1 := fun e => by rw [e, hb1] at hc; cases hc
  have n2 : c ≠ b2 := fun e => by rw [e, hb20] at hc; cases hc
  rw [upd_ne _ _ n2, upd_ne _ _ n1, upd_ne _ _ n2, upd_ne _ _ n1]; exact hc
theorem lbl_spec {K : Value → H → Prop} (hk : K (.agg zT.toArray) h) : AM.Spec Tryz.prog 31 [.agg zT.toArray] h K := by
  refine spec_ret (fun K hk => ?_) hk
  refine F31_spec _ _ _ ?_
  unfold F31 F31_0
  refine ⟨rfl, fun b1 h12 hb1 => ?_⟩
  try dsimp only
  intro b2 h22 hb2
  try dsimp only
  have hn : b2 ≠ b1 := fun e => by rw [e, upd_same] at hb2; cases hb2
  have hb20 : h b2 = none := by rw [upd_ne _ _ hn] at hb2; exact hb2
  have es : (Value.cells (.agg zT.toArray)).toList = zT := rfl
  rw [es, load_upd_ne hn.symm, load_aggU (by kernel_rfl), store_ok (upd_same _ _ _) (by simp) (by rfl) (by kernel_rfl) (by simp)]
  have e2 : setL (List.replicate 128 (Value.int .u8 0)) 0 (Value.cells (.agg zT.toArray)).toList = zT := by kernel_rfl
  rw [e2]
  try dsimp only
  rw [o_ret_u]
  try dsimp only
  rw [load_aggU (by kernel_rfl)]
  refine hk _ fun c o hc => ?_
  have n1 : c ≠ b1 := fun e => by rw [e, hb1] at hc; cases hc
  have n2 : c ≠ b2 := fun e => by rw [e, hb20] at hc; cases hc
  rw [upd_ne _ _ n2, upd_ne _ _ n2, upd_ne _ _ n1]; exact hc
theorem b_tag {K : Value → Prop} : o_build Tryz.prog 55 [] K = K (.agg #[.int .u8 0, .int .u8 0, .int .u8 0, .int .u8 0]) := by kernel_rfl
theorem zeroTag_spec {K : Value → H → Prop} (hk : K (.agg zT.toArray) h) : AM.Spec Tryz.prog 30 [.agg zT.toArray] h K := by
  refine spec_ret (fun K hk => ?_) hk
  refine F30_spec _ _ _ ?_
  unfold F30 F30_0
  refine ⟨rfl, fun b1 h12 hb1 => ?_⟩
  try dsimp only
  intro b2 h22 hb2
  try dsimp only
  have hn : b2 ≠ b1 := fun e => by rw [e, upd_same] at hb2; cases hb2
  have hb20 : h b2 = none := by rw [upd_ne _ _ hn] at hb2; exact hb2
  have es : (Value.cells (.agg zT.toArray)).toList = zT := rfl
  rw [b_tag, index_arr (by decide) (by decide)]
  have e0 : 0 + (0 : Int).toNat * 4 = 0 := rfl
  rw [e0, es, store_ok (by rw [upd_ne _ _ hn.symm, upd_same]) (by simp) (by rfl) (by rfl) (by simp [zT])]
  have e1 : setL zT 0 (Value.cells (.agg #[.int .u8 0, .int .u8 0, .int .u8 0, .int .u8 0])).toList = zT := by kernel_rfl
  rw [e1, load_aggU (by kernel_rfl), store_ok (by rw [upd_ne _ _ hn, upd_same]) (by simp) (by rfl) (by kernel_rfl) (by simp)]
  have e2 : setL (List.replicate 128 (Value.int .u8 0)) 0 (Value.cells (.agg zT.toArray)).toList = zT := by kernel_rfl
  rw [e2]
  try dsimp only
  rw [o_ret_u]
  try dsimp only
  rw [load_aggU (by kernel_rfl)]
  refine hk _ fun c o hc => ?_
  have n1 : c ≠ b1 := fun e => by rw [e, hb1] at hc; cases hc
  have n2 : c ≠ b2 := fun e => by rw [e, hb20] at hc; cases hc
  rw [upd_ne _ _ n2, upd_ne _ _ n1, upd_ne _ _ n2, upd_ne _ _ n1]; exact hc
theorem eq_tags {K : Value → Prop} : o_bin Tryz.prog .eql 56 (.agg zT.toArray) (.agg zT.toArray) K = K (.bool true) :=
  bin_refl (d := 10) (by kernel_rfl) (by kernel_rfl) (by decide) (by kernel_rfl)
theorem st_fields : (Tryz.prog.fieldsOf 51).toList.map (fun f => (f.type, f.offset)) = [(49, 0), (27, 32), (2, 33)] := by kernel_rfl
structure StC (s : List Value) : Prop where
  len : s.length = 34
  int : ∀ v ∈ s, ∃ k x, v = .int k x
theorem StC.set {s : List Value} (hs : StC s) : StC (s.set 0 (.int .u32 0)) := ⟨by simpa using hs.len, fun v hv => by
  rcases List.mem_or_eq_of_mem_set hv with hv | rfl
  · exact hs.int v hv
  · exact ⟨_, _, rfl⟩⟩
theorem StC.self {s : List Value} (hs : StC s) : selfV (.agg s.toArray) = true := by
  simp only [selfV, selfA, List.all_eq_true]
  intro v hv
  obtain ⟨k, x, rfl⟩ := hs.int v hv
  rfl
theorem eq_state {s : List Value} (hs : StC s) {K : Value → Prop} : o_bin Tryz.prog .eql 51 (.agg s.toArray) (.agg s.toArray) K = K (.bool true) := by
  refine bin_refl (d := 10) (by kernel_rfl) hs.self (by decide) (rOk_struct (d := 9) (by kernel_rfl) (by kernel_rfl) ?_)
  have hl := hs.len
  have at_ : ∀ i, i < 34 → ∃ k x, s[i]? = some (.int k x) := fun i hi => by
    have hx : s[i]? = some (s[i]'(by omega)) := List.getElem?_eq_getElem (by omega)
    obtain ⟨k, x, e⟩ := hs.int (s[i]'(by omega)) (List.getElem_mem _)
    exact ⟨k, x, by rw [hx, e]⟩
  rw [st_fields]
  intro q hq
  simp only [List.mem_cons, List.not_mem_nil, or_false] at hq
  rcases hq with rfl | rfl | rfl
  · refine ⟨_, pr_partA (n := 32) (by kernel_rfl) (by kernel_rfl), rOk_arr (d := 7) (len := 32) (elem := 27) (k := .u32) (by kernel_rfl) (by kernel_rfl) (by kernel_rfl) fun i hi => ?_⟩
    obtain ⟨k, x, e⟩ := at_ i (by omega)
    refine ⟨k, x, ?_⟩
    simp only [Array.getElem?_extract, List.size_toArray, hl]
    rw [if_pos (by omega)]
    simpa using e
  · obtain ⟨k, x, e⟩ := at_ 32 (by omega)
    exact ⟨_, pr_part (d := .int .u32) (by kernel_rfl) rfl (by simpa using e), rOk_int (k := .u32) (by kernel_rfl)⟩
  · obtain ⟨k, x, e⟩ := at_ 33 (by omega)
    exact ⟨_, pr_part (d := .int .i64) (by kernel_rfl) rfl (by simpa using e), rOk_int (k := .i64) (by kernel_rfl)⟩
end
structure SCx (F : H) (ρ : Ren) (m w q sh f mw sw fw uw : Nat) (s : List Value) : Prop where
  st : StC s
  r62 : ∃ t, ρ 62 = some (q, t)
  r64 : ∃ t, ρ 64 = some (sh, t)
  r49 : ∃ t, ρ 49 = some (f, t)
  r122 : ∃ t, ρ 122 = some (mw, t)
  r123 : ∃ t, ρ 123 = some (sw, t)
  r121 : ∃ t, ρ 121 = some (fw, t)
  m0 : AM.cellAt F m 0 = some (.pointer (some ⟨q, 0, none⟩))
  m1 : AM.cellAt F m 1 = some (.pointer (some ⟨sh, 0, none⟩))
  m2 : AM.cellsAt F m 2 34 = some s
  m36 : AM.cellsAt F m 36 128 = some zT
  m164 : AM.cellAt F m 164 = some (.pointer (some ⟨f, 0, none⟩))
  m168 : AM.cellAt F m 168 = some (.int .u32 66048)
  m169 : AM.cellAt F m 169 = some (.int .u32 66048)
  m170 : AM.cellAt F m 170 = some (.slice none 0 0)
  w0 : AM.cellAt F w 0 = some (.pointer (some ⟨mw, 0, none⟩))
  w1 : AM.cellAt F w 1 = some (.pointer (some ⟨sw, 0, none⟩))
  w2 : AM.cellsAt F w 2 34 = some s
  w36 : AM.cellsAt F w 36 128 = some zT
  w164 : AM.cellAt F w 164 = some (.pointer (some ⟨fw, 0, none⟩))
  w168 : AM.cellAt F w 168 = some (.int .u32 66048)
  w169 : AM.cellAt F w 169 = some (.int .u32 66048)
  w170 : AM.cellAt F w 170 = some (.slice none 0 0)
  f0 : ∀ h, Cx F ρ h → AM.cellAt h fw 0 = some (.pointer (some ⟨uw, 0, none⟩))
  u6 : ∀ h, Cx F ρ h → AM.cellAt h uw 6 = some (.int .i64 0)
  u7 : ∀ h, Cx F ρ h → AM.cellAt h uw 7 = some (.int .i64 0)
  u8 : ∀ h, Cx F ρ h → AM.cellAt h uw 8 = some (.int .i64 0)
theorem AM.Tb.change {ps : List (Nat × Value)} {tab : List (Nat × Nat)} {vals vals' : Nat → Value} {l : Array Bool} {t : T} (hT : Tb ps tab vals l t) (i : Nat) (hi : l.getD i false = false) (he : ∀ j, j ≠ i → vals' j = vals j) : Tb ps tab vals' l t :=
  ⟨hT.p, fun e hm hl => by
    have : e.1 ≠ i := fun h => by rw [h, hi] at hl; cases hl
    rw [he _ this]; exact hT.v e hm hl⟩
theorem get_ne {l : Array Bool} {i j : Nat} (hij : i ≠ j) : (l.setIfInBounds i true).getD j false = l.getD j false := by
  rw [getD_setR, if_neg (fun e => hij e.1.symm)]
end Go.Proofs.YtcohcmlidmaaoaaGreat
