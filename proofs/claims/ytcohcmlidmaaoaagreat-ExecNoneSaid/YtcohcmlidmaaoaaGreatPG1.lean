/-
  Pages of a memory over the abstract memory: the keys of a map, collected in any order, and sorted.
-/
import Derived.Test.YtcohcmlidmaaoaaGreatPG0
import Derived.Test.YtcohcmlidmaaoaaGreatM9
set_option linter.unusedVariables false
set_option linter.unusedSimpArgs false
set_option maxRecDepth 100000
namespace Go.Proofs.YtcohcmlidmaaoaaGreat
open Go.Proofs.YtcohcmlidmaaoaaGreat.AM
def encV (v : Value) : List Value := [v]
theorem encV_len (l : List Value) : ∀ x ∈ l, (encV x).length = 1 := fun _ _ => rfl
theorem encV_flat : ∀ l : List Value, l.flatMap encV = l
  | [] => rfl
  | a :: l => by rw [List.flatMap_cons, encV_flat l]; rfl
def KD (l : List Value) : Prop := l.Pairwise fun a b => keyEq a b = false
theorem KD.filter {l : List Value} {k : Value} (hd : KD l) (hk : keyEq k k = true) (hm : k ∈ l) : (k :: l.filter fun x => !keyEq k x).Perm l := by
  induction l with
  | nil => cases hm
  | cons a l ih =>
    have hd' := List.pairwise_cons.1 hd
    simp only [List.filter_cons]
    by_cases e : keyEq k a = true
    · obtain rfl := keyEq_eq e
      rw [e]
      simp only [Bool.not_true, Bool.false_eq_true, if_false]
      have : l.filter (fun x => !keyEq k x) = l := List.filter_eq_self.2 fun x hx => by rw [hd'.1 x hx]; rfl
      rw [this]
    · have e' : keyEq k a = false := by simpa using e
      rw [e']
      simp only [Bool.not_false, if_true]
      have hm' : k ∈ l := by
        rcases List.mem_cons.1 hm with rfl | h
        · exact absurd hk e
        · exact h
      exact (List.Perm.swap _ _ _).trans ((ih hd'.2 hm').cons a)
theorem KD.sub {l : List Value} {p : Value → Bool} (hd : KD l) : KD (l.filter p) := List.Pairwise.filter p hd
theorem distKeys {es : List (Value × Value)} (hd : Dist es) : KD (es.map (·.1)) := List.pairwise_map.2 hd
theorem kk_u32 {v : Value} (h : kkHas (.int .u32) v = true) : ∃ x, v = .int .u32 x := by
  cases v <;> simp [kkHas] at h
  exact ⟨_, by rw [h]⟩
theorem noOpen {cs cs' : List Value} {E E' : TypeId} (h : some (AObj.cells cs E .exact) = some (.cells cs' E' .open)) : False := by simp at h
theorem any_mem {l : List Value} {k : Value} (h : l.any (keyEq k) = true) : k ∈ l := by
  obtain ⟨x, hx, he⟩ := List.any_eq_true.1 h
  rw [keyEq_eq he]; exact hx
section
variable {h : H}
theorem append_ok {L : LObj} {l b2 : Nat} {k v : Value} {ks : List Value} {hb h' : H} {K : Value → H → Prop} (hL : ∀ s p cs E m, L s p ≠ .cells cs E m)
    (hl : h' l = some (L .ready none)) (hb2 : h' b2 = some (.cells [v] 28 .exact)) (hg : Gr encV 1 27 hb h' v ks) (hs : Sub hb h') (hbl : hb l = none) (hbb : hb b2 = none) (hn : ks.length < 1000) (hk : selfC k = true)
    (hlit : litCells Tryz.prog 28 1 [(0, k)] = some ([k], 27))
    (hK : ∀ v' h'', h'' l = some (L .ready none) → h'' b2 = some (.cells [v'] 28 .exact) → Gr encV 1 27 hb h'' v' (ks ++ [k]) → Sub hb h'' → (∀ c o, h' c = some o → c ≠ l → c ≠ b2 → (∀ cs, o ≠ .cells cs 27 .open) → h'' c = some o) → K (.bool true) h'') :
    F163_4r (.pointer (some ⟨b2, 0, none⟩)) L l k h' K := by
  unfold F163_4r
  simp only [F163_6, F163_5]
  have hl2 : b2 ≠ l := fun e => by rw [e, hl] at hb2; exact hL _ _ _ _ _ (Option.some.inj hb2)
  refine ⟨hl, ?_⟩
  have hg1 : Gr encV 1 27 hb (upd h' l (L .busy none)) v ks := by
    refine hg.keep fun b hb' => upd_ne _ _ fun e => ?_
    have := hg.isOpen hb'
    rw [e, hl] at this; exact hL _ _ _ _ _ (Option.some.inj this)
  have hs1 : Sub hb (upd h' l (L .busy none)) := hs.upd hbl
  rw [load_cell (v := v) (by rw [cellAt_of (by rw [upd_ne _ _ hl2]; exact hb2)]; rfl)]
  unfold o_buildSlice
  rw [hlit]
  intro b3 hb32 hb3
  have hb3l : b3 ≠ l := fun e => by rw [e, upd_same] at hb3; cases hb3
  rw [upd_ne _ _ hb3l] at hb3
  have hg2 : Gr encV 1 27 hb (upd (upd h' l (L .busy none)) b3 (.cells [k] 27 .exact)) v ks := by
    refine hg1.keep fun b hb' => upd_ne _ _ fun e => ?_
    have := hg.isOpen hb'
    rw [e, hb3] at this; cases this
  have hb3b : hb b3 = none := hs.none hb3
  have hs2 := hs1.upd (o := .cells [k] 27 .exact) hb3b
  have hsl : Sl encV 1 (upd (upd h' l (L .busy none)) b3 (.cells [k] 27 .exact)) (.slice (some ⟨b3, 0, none⟩) 1 1) [k] :=
    Sl.of_block (l := [k]) (encV_len _) (upd_same _ _ _) rfl (by simp)
  refine Gr.append hg2 hsl (by simp) (by omega) (by simp; omega) (by simp; omega) hs2 fun v' h2 g2 s2 f2 n2 => ?_
  have q1 : h2 l = some (L .busy none) := f2 _ _ (by rw [upd_ne _ _ hb3l.symm, upd_same]) fun e => by
    have := hg.isOpen e
    rw [hl] at this; exact hL _ _ _ _ _ (Option.some.inj this)
  have hb23 : b2 ≠ b3 := fun e => by rw [e, hb3] at hb2; cases hb2
  have q2 : h2 b2 = some (.cells [v] 28 .exact) := f2 _ _ (by rw [upd_ne _ _ hb23, upd_ne _ _ hl2]; exact hb2) fun e => by
    have := hg.isOpen e
    rw [hb2] at this; exact noOpen this
  rw [store_ok q2 (by simp) g2.sl.box (by rcases g2.2 with ⟨_, rfl⟩ | ⟨b, _, _, rfl, _⟩ <;> rfl) (by simp)]
  have hset : setL [v] 0 v'.cells.toList = [v'] := by rcases g2.2 with ⟨_, rfl⟩ | ⟨b, _, _, rfl, _⟩ <;> rfl
  rw [hset]
  have hnb : ∀ b, blockOf v' = some b → b ≠ b2 := fun b e1 e2 => by
    have := g2.isOpen e1
    rw [e2, q2] at this; exact noOpen this
  have hnl : ∀ b, blockOf v' = some b → b ≠ l := fun b e1 e2 => by
    have := g2.isOpen e1
    rw [e2, q1] at this; exact hL _ _ _ _ _ (Option.some.inj this)
  refine ⟨by rw [upd_ne _ _ hl2.symm]; exact q1, hK v' _ (upd_same _ _ _) (by rw [upd_ne _ _ hl2, upd_same]) ?_ ?_ ?_⟩
  · refine g2.keep fun b e => ?_
    rw [upd_ne _ _ (hnl b e), upd_ne _ _ (hnb b e)]
  · exact (s2.upd hbb).upd hbl
  · intro c o hc h1 h3 h4
    rw [upd_ne _ _ h1, upd_ne _ _ h3]
    refine f2 _ _ ?_ fun e => ?_
    · have : c ≠ b3 := fun e => by rw [e, hb3] at hc; cases hc
      rw [upd_ne _ _ this, upd_ne _ _ h1]; exact hc
    · have := hg.isOpen e
      rw [hc] at this; exact h4 _ (Option.some.inj this)
theorem seq_ok' {b1 pm ck : Nat} {es : List (Value × Value)} {Q : Value → H → Prop} (hb1 : h b1 = some (.cells [.map (some pm)] 204 .exact)) (hpm : h pm = some (.map (.int .u32) es ck)) (hd : Dist es)
    (hkk : ∀ e ∈ es, kkHas (.int .u32) e.1 = true) (hn : es.length < 900) (hq : ∀ v ks h', ks.Perm (es.map (·.1)) → Gr encV 1 27 h h' v ks → Sub h h' → Q v h') :
    AM.Spec Tryz.prog 163 [.slice none 0 0, .func (.func 142) #[] #[.pointer (some ⟨b1, 0, none⟩)]] h Q := by
  refine F163_spec _ _ _ _ ?_
  simp only [F163, F163_0]
  refine ⟨rfl, fun b2 hb22 hb2 => ?_⟩
  simp only [F163_1, F163_2, F163_3, F163_4]
  intro l d L hl2 hd2 hld hl hd0 hL hround
  have hlb : l ≠ b2 := fun e => by rw [e, upd_same] at hl; cases hl
  have hdb : d ≠ b2 := fun e => by rw [e, upd_same] at hd0; cases hd0
  rw [upd_ne _ _ hlb] at hl
  rw [upd_ne _ _ hdb] at hd0
  refine ⟨by kernel_rfl, F142_spec _ _ _ _ ?_⟩
  have hkr : ∀ e ∈ es, keyEq e.1 e.1 = true := fun e he => (keyEq_iff (hkk e he) (hkk e he)).2 rfl
  have up : ∀ {c o}, h c = some o → ∀ q q' q2, upd (upd (upd h b2 q) d q') l q2 c = some o := by
    intro c o hc q q' q2
    have h1 : c ≠ b2 := fun e => by rw [e, hb2] at hc; cases hc
    have h3 : c ≠ d := fun e => by rw [e, hd0] at hc; cases hc
    have h4 : c ≠ l := fun e => by rw [e, hl] at hc; cases hc
    rw [upd_ne _ _ h4, upd_ne _ _ h3, upd_ne _ _ h1]; exact hc
  simp only [F142, F142_0, List.all_nil, cond_true]
  rw [load_cell (v := .map (some pm)) (by rw [cellAt_of (up hb1 _ _ _)]; rfl)]
  unfold o_range
  simp only [up hpm]
  intro it hit2 hit
  have hitl : it ≠ l := fun e => by rw [e, upd_same] at hit; cases hit
  rw [upd_ne _ _ hitl] at hit
  have hitd : it ≠ d := fun e => by rw [e, upd_same] at hit; cases hit
  rw [upd_ne _ _ hitd] at hit
  have hitb : it ≠ b2 := fun e => by rw [e, upd_same] at hit; cases hit
  rw [upd_ne _ _ hitb] at hit
  simp only [F142_1, F142_2]
  refine ⟨fun m s h' => ∃ left ks v cur, s = (.func (.yield l) #[] #[], .pointer (some ⟨it, 0, none⟩)) ∧ m = left.length ∧ h' it = some (.iter (some pm) left ck cur) ∧ h' l = some (L .ready none) ∧ h' b2 = some (.cells [v] 28 .exact) ∧ h' d = some .defer ∧
    Gr encV 1 27 h h' v ks ∧ Sub h h' ∧ (ks ++ left).Perm (es.map (·.1)) ∧ KD left, ⟨_, _, [], .slice none 0 0, none, rfl, rfl, upd_same _ _ _, ?_, ?_, ?_, Gr.empty, ?_, .refl _, distKeys hd⟩, ?_⟩
  · rw [upd_ne _ _ hitl.symm, upd_same]
  · rw [upd_ne _ _ hitb.symm, upd_ne _ _ hlb.symm, upd_ne _ _ hdb.symm, upd_same]; rfl
  · rw [upd_ne _ _ hitd.symm, upd_ne _ _ hld.symm, upd_same]
  · intro c o hc
    rw [upd_ne _ _ fun e => by rw [e, hit] at hc; cases hc]
    exact up hc _ _ _
  rintro m s h' ⟨left, ks, v, cur, rfl, rfl, i1, i2, i3, i4, i5, i6, i7, i8⟩
  simp only [F142_3, o_next, i1, i6 _ _ hpm]
  have hlen : ks.length + left.length = es.length := by have := i7.length_eq; simpa using this
  refine ⟨trivial, fun e he hany => ?_, fun hall => ?_⟩
  · rw [ex0', if_true']
    have hkr' := hkr e he
    have hml := any_mem hany
    have hpit : pm ≠ it := fun q => by rw [q, hit] at hpm; cases hpm
    unfold o_entry
    simp only [upd_same, upd_ne _ _ hpit, i6 _ _ hpm, mfind_mem hd he hkr']
    refine ⟨trivial, ?_⟩
    rw [ex0]
    obtain ⟨x, hx⟩ := kk_u32 (hkk e he)
    have hsk : selfC e.1 = true := by rw [hx]; rfl
    have hlit : litCells Tryz.prog 28 1 [(0, e.1)] = some ([e.1], 27) := by rw [hx]; kernel_rfl
    have hg' : Gr encV 1 27 h (upd h' it (.iter (some pm) (left.filter fun k => !keyEq e.1 k) ck (some e.1))) v ks := i5.over i1 fun cs q => by cases q
    refine ⟨by rw [hx]; rfl, rfl, rfl, hround [e.1] _ _ (by rw [upd_ne _ _ hitl.symm]; exact i2) ?_⟩
    refine append_ok hL (by rw [upd_ne _ _ hitl.symm]; exact i2) (by rw [upd_ne _ _ hitb.symm]; exact i3) hg' (i6.upd hit) hl hb2 (by omega) hsk hlit fun v' h2 g1 g2 g3 g4 g5 => ?_
    rw [un_not]
    simp only [Bool.not_true, if_false']
    refine ⟨_, filter_less hany, left.filter (fun k => !keyEq e.1 k), ks ++ [e.1], v', some e.1, trivial, rfl, ?_, g1, g2, ?_, g3, g4, ?_, i8.sub⟩
    · exact g5 _ _ (upd_same _ _ _) hitl hitb (fun cs q => by cases q)
    · exact g5 _ _ (by rw [upd_ne _ _ hitd.symm]; exact i4) hld.symm hdb (fun cs q => by cases q)
    · rw [List.append_assoc]
      exact (List.Perm.append_left ks (i8.filter hkr' hml)).trans i7
  · have e0 : ∀ K : Value → Prop, o_extract (.tuple #[.bool false]) 0 K = K (.bool false) := fun _ => rfl
    rw [e0, if_false']
    have hnil : left = [] := by
      cases left with
      | nil => rfl
      | cons a left =>
        have ha : a ∈ es.map (·.1) := i7.subset (by simp)
        obtain ⟨e, he, rfl⟩ := List.mem_map.1 ha
        have := hall e he
        simp only [List.any_cons, hkr e he, Bool.true_or] at this
        cases this
    subst hnil
    rw [List.append_nil] at i7
    refine .inl ⟨i2, ?_⟩
    simp only [F163_7]
    rw [load_cell (v := v) (by rw [cellAt_of (by rw [del_ne _ hlb.symm]; exact i3)]; rfl)]
    have hmk : marks (addMark undef d) = [d] := by kernel_rfl
    unfold o_ret
    rw [hmk]
    refine ⟨by simp, fun c hc => ?_, ?_⟩
    · rw [List.mem_singleton.1 hc, del_ne _ hld.symm]; exact i4
    · refine hq v ks _ i7 (i5.keep fun b e => ?_) fun c o hc => ?_
      · have := i5.isOpen e
        have h1 : b ≠ d := fun q => by rw [q, i4] at this; cases this
        have h3 : b ≠ l := fun q => by rw [q, i2] at this; exact hL _ _ _ _ _ (Option.some.inj this)
        simp only [List.mem_singleton, if_neg h1, del_ne _ h3]
      · have h1 : c ≠ d := fun q => by rw [q, hd0] at hc; cases hc
        have h3 : c ≠ l := fun q => by rw [q, hl] at hc; cases hc
        simp only [List.mem_singleton, if_neg h1, del_ne _ h3]
        exact i6 _ _ hc
def intOf (v : Value) : Int := match v with | .int _ x => x | _ => 0
theorem intOf_u32 : ∀ {l : List Value}, (∀ v ∈ l, kkHas (.int .u32) v = true) → (l.map intOf).map (.int .u32 ·) = l
  | [], _ => rfl
  | a :: l, h => by
    obtain ⟨x, hx⟩ := kk_u32 (h a (.head _))
    rw [List.map_cons, List.map_cons, intOf_u32 fun v hv => h v (.tail _ hv), hx]; rfl
theorem upd_self {h : H} {b : Nat} {o : AObj} (hb : h b = some o) : upd h b o = h := by
  funext c
  by_cases e : c = b
  · subst e; rw [upd_same, hb]
  · rw [upd_ne _ _ e]
theorem pages_ok {mb mo pm ck : Nat} {es : List (Value × Value)} {zs : List Int} {Q : Value → H → Prop} (hmb : AM.cellAt h mb (mo + 1) = some (.map (some pm))) (hpm : h pm = some (.map (.int .u32) es ck)) (hd : Dist es)
    (hkk : ∀ e ∈ es, kkHas (.int .u32) e.1 = true) (hn : es.length < 50) (hne : es ≠ []) (hz : zs.Pairwise (· ≤ ·)) (hzp : (zs.map (Value.int .u32 ·)).Perm (es.map (·.1)))
    (hq : ∀ b h', 2 ≤ b → h b = none → Sub h h' → h' b = some (.cells (zs.map (.int .u32 ·)) 27 .open) → Q (.slice (some ⟨b, 0, none⟩) zs.length zs.length) h') :
    AM.Spec Tryz.prog 59 [.pointer (some ⟨mb, mo, none⟩)] h Q := by
  refine F59_spec _ _ _ ?_
  simp only [F59, F59_0, nilp, field_addr, load_cell hmb]
  refine ⟨rfl, F97_spec _ _ _ ?_⟩
  simp only [F97, F97_0]
  refine ⟨rfl, fun b1 hb12 hb1 => ⟨rfl, rfl, ?_⟩⟩
  refine ⟨rfl, F96_spec _ _ _ ?_⟩
  simp only [F96, F96_0]
  refine ⟨rfl, F140_spec _ _ _ ?_⟩
  simp only [F140, F140_0]
  have hp1 : pm ≠ b1 := fun e => by rw [e, hb1] at hpm; cases hpm
  refine ⟨rfl, seq_ok' (upd_same _ _ _) (by rw [upd_ne _ _ hp1]; exact hpm) hd hkk (by omega) fun v ks h' g1 g2 g3 => ?_⟩
  have hku : ∀ v ∈ ks, kkHas (.int .u32) v = true := fun v hv => by
    obtain ⟨e, he, rfl⟩ := List.mem_map.1 (g1.subset hv)
    exact hkk e he
  have hlen : ks.length = es.length := by have := g1.length_eq; simpa using this
  obtain ⟨_, ⟨rfl, _⟩ | ⟨b, hk0, hb2, rfl, hb, hb0⟩⟩ := g2
  · have : es.length = 0 := by rw [← hlen]; rfl
    exact absurd (List.length_eq_zero_iff.1 this) hne
  rw [encV_flat] at hb
  have hbb1 : b ≠ b1 := fun e => by rw [e, upd_same] at hb0; cases hb0
  rw [upd_ne _ _ hbb1] at hb0
  have hsub : Sub h h' := fun c o hc => g3 _ _ (by rw [upd_ne _ _ fun e => by rw [e, hb1] at hc; cases hc]; exact hc)
  have hAB : AB h' b 27 .open (ks.map intOf).toArray = h' := by
    unfold AB encD
    rw [List.toList_toArray, intOf_u32 hku]
    exact upd_self hb
  have hzs : (ks.map intOf).mergeSort (fun x y => decide (x ≤ y)) = zs := by
    have p1 : (ks.map intOf).Perm zs := by
      have : zs = (zs.map (Value.int .u32 ·)).map intOf := by rw [List.map_map]; exact (List.map_id' zs).symm
      rw [this]
      exact (g1.trans hzp.symm).map _
    refine List.Perm.eq_of_pairwise (le := (· ≤ ·)) (fun a b _ _ h1 h2 => by omega) ?_ hz ((List.mergeSort_perm _ _).trans p1)
    exact (List.pairwise_mergeSort (fun a b c h1 h2 => by simp at *; omega) (fun a b => by simp; omega) _).imp fun h => by simpa using h
  have hl2 : zs.length = ks.length := by rw [← hzs, List.length_mergeSort, List.length_map]
  refine ⟨rfl, ?_⟩
  rw [← hAB]
  refine sort_ok (d := (ks.map intOf).toArray) (L := ks.length) (by simp) (by simp) (by omega) ?_
  rw [List.toList_toArray, hzs, ← hl2]
  refine hq b _ hb2 hb0 ?_ ?_
  · intro c o hc
    have : c ≠ b := fun e => by rw [e, hb0] at hc; cases hc
    unfold AB
    rw [upd_ne _ _ this]; exact hsub _ _ hc
  · rw [AB_same]; rfl
end
end Go.Proofs.YtcohcmlidmaaoaaGreat
