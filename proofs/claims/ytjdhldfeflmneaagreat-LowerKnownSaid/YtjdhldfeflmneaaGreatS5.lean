/-
  The summary of 'write' stands for the code.
-/
import Derived.Test.YtjdhldfeflmneaaGreatS4
set_option linter.unusedSimpArgs false
set_option linter.unusedVariables false
namespace Go.Proofs.YtjdhldfeflmneaaGreat
open Go.Proofs.YtjdhldfeflmneaaGreat.AM
section
variable {F : H} {ρ : Ren} {n : Nat} {eh : EH} {h : H}
theorem w_page_set {p : WP} {e : EH} {pb a : Nat} {r r' : R} {E E' : TypeId} {w w' : AM.Own} (hg : e.get pb = some (.cells r E w)) (hne : pb ≠ p.mb) : w_page p (e.set pb (.cells r' E' w')) a = w_page p e a := by
  unfold w_page
  rw [cellE_set (Ne.symm hne)]
  split
  · rename_i pm _
    by_cases he : pm = pb
    · subst he
      rw [Tr.get_set, if_pos rfl, hg]
    · rw [Tr.get_set, if_neg he]
  · rfl
theorem w_page_congr {p : WP} {e : EH} {a b : Nat} (h : a - a % 256 = b - b % 256) : w_page p e a = w_page p e b := by
  have h' : Nat.sub a (Nat.mod a 256) = Nat.sub b (Nat.mod b 256) := h
  unfold w_page
  rw [h']
theorem dcall_base {a : Nat} {K : Value → H → Prop} (ha : a < 4294967296) : o_dcall D0 109 [.int .u32 a] h K = K (.int .u32 (a - a % 256 : Nat)) h := by
  show (_ ∧ K (.int .u32 (IntKind.u32.wrap ((a : Int) - (a : Int).tmod 256))) h) = _
  rw [base_eq ha]
  simp [boxV]
theorem gen_ok {p : WP} {mb' a : Nat} {t : LObj} {eh' : EH} (hs : XSim F ρ n eh h) (hm : ρ p.mb = some (mb', t)) (ha : a < 4294967296) (hp : w_gen p eh a = some eh') {x1 x27 x28 x29 : Value} {Kn : Value → Value → Value → Value → Value → H → Prop} {Kr : Value → H → Prop} {Ke2 : Value → Value → Value → Value → Value → H → Prop} {Ke1 : H → Prop}
    (hq : ∀ h', XSim F ρ n eh' h' → Kn (.pointer (some ⟨mb', p.mo, none⟩)) x1 x27 x28 x29 h') : F243_13 (.pointer (some ⟨mb', p.mo, none⟩)) x1 (.int .u32 a) x27 x28 x29 h Kn Kr Ke2 Ke1 := by
  unfold w_gen at hp
  split at hp
  rotate_left
  · cases hp
  rename_i gm hc
  split at hp
  rotate_left
  · cases hp
  rename_i gs c hg
  split at hp
  rotate_left
  · cases hp
  rename_i x hx
  cases hp
  obtain ⟨v', hv', hr⟩ := cell_of hs hm hc
  obtain ⟨gm', t', hl, rfl⟩ := hr.mp
  change xfind gs (.int .u32 ((a - a % 256 : Nat) : Int)) = _ at hx
  unfold F243_13
  simp only [nil_ptr, field_addr, load_cell hv']
  rw [dcall_base ha]
  refine e_lookup_ok (z := .c (.int .u32 0)) (x := .c (.map (some gm))) (k := .c (.int .u32 ((a - a % 256 : Nat) : Int))) (r := .a (.c (.int .u32 x))) hs (.c (.of_self rfl)) (.c hr) (.c (.of_self rfl)) ?_ fun u hu => ?_
  · simp only [e_lookup, hg, hx]; rfl
  · have : u = .int .u32 x := by cases hu with | a hu => exact hu.toC.self_eq rfl
    subst this
    rw [bin_add]
    refine e_mapUpdate_ok (m := .c (.map (some gm))) (k := .c (.int .u32 ((a - a % 256 : Nat) : Int))) (x := .c (.int .u32 (wrapF .u32 (x + 1)))) hs (.c hr) (.c (.of_self rfl)) (by rw [wrapF_eq]; exact .c (.of_self rfl)) ?_ hq
    simp only [e_mapUpdate, hg, hx]; rfl
/-- A round of 'write'. -/
theorem write_body {p : WP} {mb' bb' addr i cap : Nat} {t t2 : LObj} {e1 e2 : EH} (hs : XSim F ρ n eh h) (hm : ρ p.mb = some (mb', t)) (hbb : ρ p.bb = some (bb', t2)) (hi : i < p.len) (hlen : addr + p.len ≤ 4294967296) (hp : w_first p eh (addr + i) i = some e1)
    (hgen : if i = 0 ∨ (addr + i) % 256 = 0 then w_gen p e1 (addr + i) = some e2 else e2 = e1) {Kn : Value → Value → Value → Value → Value → H → Prop} {Kr : Value → H → Prop} {Ke : H → Prop}
    (hk : ∀ h', XSim F ρ n e2 h' → Kn (.pointer (some ⟨mb', p.mo, none⟩)) (.int .u32 addr) (.slice (some ⟨bb', p.bo, none⟩) p.len cap) (.int .i64 p.len) (.int .i64 (i + 1 : Nat)) h') :
    F243_5 (.pointer (some ⟨mb', p.mo, none⟩)) (.int .u32 addr) (.slice (some ⟨bb', p.bo, none⟩) p.len cap) (.int .i64 p.len) (.int .i64 i) h Kn Kr Ke := by
  unfold w_first at hp
  split at hp
  rotate_left
  · cases hp
  rename_i pb po v hpm hv
  unfold w_page at hpm
  split at hpm
  rotate_left
  · cases hpm
  rename_i pm hc
  split at hpm
  rotate_left
  · cases hpm
  rename_i es clk hgm
  split at hpm
  rotate_left
  · cases hpm
  rename_i pb' po' hx
  cases hpm
  split at hp
  rotate_left
  · cases hp
  rename_i r E w hg
  obtain ⟨hb, hp⟩ := bif_some hp
  cases hp
  simp only [Bool.and_eq_true, blt_iff] at hb
  obtain ⟨⟨hw, hsz⟩, ha⟩ := hb
  change po + (addr + i) % 256 < r.size at hsz
  change xfind es (.int .u32 ((addr + i - (addr + i) % 256 : Nat) : Int)) = _ at hx
  obtain ⟨v', hv', hrv⟩ := cell_of hs hbb hv
  obtain ⟨ls, hls, hrl⟩ := cell_of hs hm hc
  obtain ⟨pm', t', hl, rfl⟩ := hrl.mp
  unfold F243_5
  have d1 : decide ((i : Int) < (p.len : Int)) = true := by simp; omega
  rw [bin_lss, d1, if_true']
  unfold F243_6 F243_7 F243_8
  have e3 : p.bo + (i : Int).toNat * 1 = p.bo + i := by simp
  rw [index_sl (show (0 : Int) ≤ (i : Int) by omega) (show (i : Int) < (p.len : Int) by omega), e3, load_cell hv']
  have e1 : IntKind.u32.wrap (i : Int) = (i : Int) := wrapu32 (by omega) (by omega)
  have e2' : IntKind.u32.wrap ((addr : Int) + (i : Int)) = ((addr + i : Nat) : Int) := by rw [wrapu32 (by omega) (by omega)]; omega
  simp only [conv_int, e1, bin_add, e2']
  unfold F243_9 F243_10
  simp only [nil_ptr, field_addr, load_cell hls]
  rw [dcall_base ha]
  have hmod : (addr + i) % 256 < 256 := Nat.mod_lt _ (by decide)
  refine e_lookup_ok (z := .c (.pointer none)) (x := .c (.map (some pm))) (k := .c (.int .u32 ((addr + i - (addr + i) % 256 : Nat) : Int))) (r := .a (.c (.pointer (some ⟨pb, po, none⟩)))) hs (.c (.of_self rfl)) (.c hrl) (.c (.of_self rfl)) ?_ fun u hu => ?_
  · simp only [e_lookup, hgm, hx]; rfl
  obtain ⟨pb', tp, hpb, rfl⟩ : ∃ b' t, ρ pb = some (b', t) ∧ u = .pointer (some ⟨b', po, none⟩) := by cases hu with | a hu => exact hu.toC.ptr
  rw [bin_rem (by decide), rem_eq, nil_ptr, field_addr]
  rw [index_arr (show (0 : Int) ≤ (((addr + i) % 256 : Nat) : Int) by omega) (by omega)]
  have e4 : po + 0 + (((addr + i) % 256 : Nat) : Int).toNat * 1 = po + (addr + i) % 256 := by rw [Int.toNat_natCast, Nat.mul_one, Nat.add_zero]
  rw [e4]
  refine store1 hs hg hpb hw hsz hrv fun h1 hs1 => ?_
  have hfin : ∀ h', XSim F ρ n e2 h' → F243_15 (.pointer (some ⟨mb', p.mo, none⟩)) (.int .u32 addr) (.slice (some ⟨bb', p.bo, none⟩) p.len cap) (.int .i64 p.len) (.int .i64 i) h' Kn Kr Ke := by
    intro h' hs'
    unfold F243_15
    have e5 : IntKind.i64.wrap ((i : Int) + 1) = ((i + 1 : Nat) : Int) := by rw [wrap64 (by omega) (by omega)]; omega
    rw [bin_add, e5]
    exact hk h' hs'
  unfold F243_11
  rw [bin_eql]
  by_cases hi0 : i = 0
  · subst hi0
    rw [if_pos (Or.inl rfl)] at hgen
    have d2 : decide (((0 : Nat) : Int) = 0) = true := rfl
    rw [d2, guard_tf, pick_true]
    unfold F243_12
    rw [if_true']
    exact gen_ok hs1 hm ha hgen hfin
  · have d2 : decide ((i : Int) = 0) = false := by simp; omega
    rw [d2, guard_ff, bin_rem (by decide), rem_eq, bin_eql]
    simp only [pick_false]
    unfold F243_12
    by_cases hi1 : (addr + i) % 256 = 0
    · rw [if_pos (Or.inr hi1)] at hgen
      have d3 : decide ((((addr + i) % 256 : Nat) : Int) = 0) = true := by rw [hi1]; rfl
      rw [d3, if_true']
      exact gen_ok hs1 hm ha hgen hfin
    · rw [if_neg (by rintro (h | h) <;> contradiction)] at hgen
      have d3 : decide ((((addr + i) % 256 : Nat) : Int) = 0) = false := by simp; omega
      rw [d3, if_false']
      unfold F243_14
      subst hgen
      exact hfin _ hs1
/-- The round at byte i stands within a page: c bytes behind the first are done, of cnt. -/
def MidW (F : H) (ρ : Ren) (n : Nat) (p : WP) (addr : Nat) (ehf : EH) (i : Nat) (h : H) : Prop :=
  ∃ (e1 : EH) (pb po c cnt : Nat) (r : R) (E : TypeId) (w : AM.Own) (br : R) (bE : TypeId) (bw : AM.Own) (f : Nat) (s : R),
    c < cnt ∧ c < i ∧ i - c + cnt ≤ p.len ∧ (addr + i) % 256 = (addr + (i - c)) % 256 + c ∧ (addr + (i - c)) % 256 ≠ 0 ∧ (addr + (i - c)) % 256 + cnt ≤ 256 ∧
    w_page p e1 (addr + i) = some (pb, po) ∧ e1.get pb = some (.cells r E w) ∧ e1.get p.bb = some (.cells br bE bw) ∧
    notRo w = true ∧ pb ≠ p.mb ∧ pb ≠ p.bb ∧ po + (addr + (i - c)) % 256 + cnt ≤ r.size ∧ p.bo + (i - c) + cnt ≤ br.size ∧
    s = (br.drop (p.bo + (i - c))).take cnt ∧
    XSim F ρ n (e1.set pb (.cells (r.splice (po + (addr + (i - c)) % 256) (s.take c)) E w)) h ∧
    (i - c + cnt = p.len ∨ (addr + (i - c + cnt)) % 256 = 0) ∧
    w_run p f (e1.set pb (.cells (r.splice (po + (addr + (i - c)) % 256) s) E w)) (addr + (i - c) + cnt) (i - c + cnt) = some ehf
def EdgeW (F : H) (ρ : Ren) (n : Nat) (p : WP) (addr : Nat) (ehf : EH) (i : Nat) (h : H) : Prop :=
  ∃ f e, (i = 0 ∨ (addr + i) % 256 = 0 ∨ i = p.len) ∧ XSim F ρ n e h ∧ w_run p f e (addr + i) i = some ehf
/-- A round out of the midst of a page. -/
theorem midW_step {p : WP} {addr i : Nat} {ehf : EH} (hM : MidW F ρ n p addr ehf i h) (hlen : addr + p.len ≤ 4294967296) :
    i < p.len ∧ i ≠ 0 ∧ (addr + i) % 256 ≠ 0 ∧ ∃ eh e1, XSim F ρ n eh h ∧ w_first p eh (addr + i) i = some e1 ∧ ∀ h', XSim F ρ n e1 h' → MidW F ρ n p addr ehf (i + 1) h' ∨ EdgeW F ρ n p addr ehf (i + 1) h' := by
  obtain ⟨e1, pb, po, c, cnt, r, E, w, br, bE, bw, f, s, h1, h2, h3, h4, h5, h6, h7, h8, h9, h11, h13, h14, h15, h16, h17, h18, h19, h20⟩ := hM
  have hss : s.size = cnt := by rw [h17, R.take_size _ _ (by rw [R.drop_size]; omega)]
  have hsc : (s.take c).size = c := R.take_size _ _ (by omega)
  obtain ⟨v, hv⟩ : ∃ v, br.get (p.bo + i) = some v := by
    have : p.bo + i < br.toL.length := by rw [← R.size_eq]; omega
    exact ⟨br.toL[p.bo + i], by rw [R.get_eq, List.getElem?_eq_getElem this]⟩
  have hvs : s.get c = some v := by
    rw [h17, R.get_eq, R.take_toL, R.drop_toL, List.getElem?_take_of_lt h1, List.getElem?_drop, ← R.get_eq, ← hv]
    congr 1; omega
  generalize hst : po + (addr + (i - c)) % 256 = st at *
  have hsto : po + (addr + i) % 256 = st + c := by omega
  have hXsz : (r.splice st (s.take c)).size = r.size := R.splice_size _ _ _ (by omega)
  refine ⟨by omega, by omega, by omega, e1.set pb (.cells (r.splice st (s.take c)) E w), (e1.set pb (.cells (r.splice st (s.take c)) E w)).set pb (.cells ((r.splice st (s.take c)).set (st + c) v) E w), h18, ?_, ?_⟩
  · have g1 : w_page p (e1.set pb (.cells (r.splice st (s.take c)) E w)) (addr + i) = some (pb, po) := by rw [w_page_set h8 h13]; exact h7
    have g2 : cellE (e1.set pb (.cells (r.splice st (s.take c)) E w)) p.bb (p.bo + i) = some v := by
      rw [cellE_set (Ne.symm h14)]
      simp only [cellE, h9]; exact hv
    have g3 : (e1.set pb (.cells (r.splice st (s.take c)) E w)).get pb = some (.cells (r.splice st (s.take c)) E w) := by rw [Tr.get_set, if_pos rfl]
    unfold w_first
    rw [g1, g2]
    simp only [g3]
    have g5 : (notRo w && Nat.blt (po + Nat.mod (addr + i) 256) (r.splice st (s.take c)).size && Nat.blt (addr + i) 4294967296) = true := by
      simp only [Bool.and_eq_true, blt_iff, h11, true_and, hXsz]
      refine ⟨?_, ?_⟩
      · show po + (addr + i) % 256 < r.size
        omega
      · omega
    rw [g5, cond_true]
    show some ((e1.set pb (.cells (r.splice st (s.take c)) E w)).set pb (.cells ((r.splice st (s.take c)).set (po + (addr + i) % 256) v) E w)) = _
    rw [hsto]
  · intro h' hs'
    have key : ∀ s', s'.toL = (r.splice st (s.take (c + 1))).toL → XSim F ρ n (e1.set pb (.cells s' E w)) h' := by
      intro s' he
      refine XSim.reset' hs' (r := (r.splice st (s.take c)).set (st + c) v) (b := pb) (r' := s') (E := E) (w := w) (by rw [Tr.get_set, if_pos rfl]) ?_ ?_
      · rw [he, splice_snoc (by omega) hvs (by omega)]
      · intro q
        rw [Tr.get_set, Tr.get_set, Tr.get_set]
        split <;> rfl
    by_cases hcc : c + 1 < cnt
    · left
      have e1' : i + 1 - (c + 1) = i - c := by omega
      have e2' : (addr + (i + 1)) % 256 = (addr + i) % 256 + 1 := by omega
      refine ⟨e1, pb, po, c + 1, cnt, r, E, w, br, bE, bw, f, s, hcc, by omega, ?_⟩
      rw [e1', hst]
      refine ⟨h3, by omega, h5, h6, ?_, h8, h9, h11, h13, h14, h15, h16, h17, key _ rfl, h19, h20⟩
      rw [w_page_congr (show addr + (i + 1) - (addr + (i + 1)) % 256 = addr + i - (addr + i) % 256 by omega)]; exact h7
    · right
      have hc1 : c + 1 = cnt := by omega
      refine ⟨f, e1.set pb (.cells (r.splice st s) E w), ?_, key _ ?_, ?_⟩
      · rw [show i - c + cnt = i + 1 by omega] at h19
        rcases h19 with h | h
        · exact .inr (.inr h)
        · exact .inr (.inl h)
      · have : (s.take (c + 1)).toL = s.toL := by rw [R.take_toL, List.take_of_length_le]; rw [← R.size_eq]; omega
        rw [R.splice_toL _ _ _ (by omega), R.splice_toL _ _ _ (by rw [R.take_size _ _ (by omega)]; omega), this]
      · rw [show addr + (i + 1) = addr + (i - c) + cnt by omega, show i + 1 = i - c + cnt by omega]; exact h20
/-- A round at a page's head. -/
theorem edgeW_step {p : WP} {addr i : Nat} {ehf : EH} (hE : EdgeW F ρ n p addr ehf i h) (hi : i < p.len) (hlen : addr + p.len ≤ 4294967296) :
    (i = 0 ∨ (addr + i) % 256 = 0) ∧ ∃ eh e1 e2, XSim F ρ n eh h ∧ w_first p eh (addr + i) i = some e1 ∧ w_gen p e1 (addr + i) = some e2 ∧ ∀ h', XSim F ρ n e2 h' → MidW F ρ n p addr ehf (i + 1) h' ∨ EdgeW F ρ n p addr ehf (i + 1) h' := by
  obtain ⟨f, e, h1, h2, h3⟩ := hE
  refine ⟨by omega, ?_⟩
  have hne : Nat.beq i p.len = false := nbeq (by omega)
  cases f with
  | zero => simp only [w_run, hne, cond_false] at h3; cases h3
  | succ f =>
    simp only [w_run, hne, cond_false] at h3
    split at h3
    rotate_left
    · cases h3
    rename_i e1 hf
    split at h3
    rotate_left
    · cases h3
    rename_i e2 hg
    split at h3
    rotate_left
    · cases h3
    rename_i e3 hr
    refine ⟨e, e1, e2, h2, hf, hg, fun h' hs' => ?_⟩
    rw [minN_eq] at h3 hr
    change w_run p f e3 (addr + i + min (p.len - i) (256 - (addr + i) % 256)) (i + min (p.len - i) (256 - (addr + i) % 256)) = some ehf at h3
    change w_rest p e2 (addr + i + 1) (i + 1) (min (p.len - i) (256 - (addr + i) % 256) - 1) = some e3 at hr
    have hmod : (addr + i) % 256 < 256 := Nat.mod_lt _ (by decide)
    generalize hm : min (p.len - i) (256 - (addr + i) % 256) = m at *
    have hm1 : 1 ≤ m := by omega
    unfold w_rest at hr
    cases hz : Nat.beq (m - 1) 0
    · rw [hz, cond_false] at hr
      have hz' : m - 1 ≠ 0 := fun e => by rw [e] at hz; cases hz
      split at hr
      rotate_left
      · cases hr
      rename_i pb po br bE bw hpm hbb
      split at hr
      rotate_left
      · cases hr
      rename_i r E w hgl
      obtain ⟨hb, hr⟩ := bif_some hr
      simp only [Bool.and_eq_true, blt_iff, ble_iff, Bool.not_eq_true'] at hb
      obtain ⟨⟨⟨⟨hw, hb1⟩, hb2⟩, hs1⟩, hs2⟩ := hb
      have hne1 : pb ≠ p.mb := fun e => by rw [e, Nat.beq_refl] at hb1; cases hb1
      have hne2 : pb ≠ p.bb := fun e => by rw [e, Nat.beq_refl] at hb2; cases hb2
      cases hr
      change po + (addr + i + 1) % 256 + (m - 1) ≤ r.size at hs1
      left
      have ei : i + 1 - 0 = i + 1 := rfl
      refine ⟨e2, pb, po, 0, m - 1, r, E, w, br, bE, bw, f, (br.drop (p.bo + (i + 1))).take (m - 1), by omega, by omega, ?_⟩
      rw [ei]
      have ea : addr + (i + 1) = addr + i + 1 := rfl
      rw [ea]
      refine ⟨by omega, by omega, by omega, by omega, hpm, hgl, hbb, hw, hne1, hne2, hs1, hs2, rfl, ?_, ?_, ?_⟩
      · refine XSim.reset' hs' (r := r) (b := pb) hgl ?_ fun c => Tr.get_set _ _ _ _
        have e0 : ((R.take (R.take (R.drop br (p.bo + (i + 1))) (m - 1)) 0).toL : List Value) = [] := by rw [R.take_toL, List.take_zero]
        rw [R.splice_toL _ _ _ (by rw [R.take_size _ _ (Nat.zero_le _)]; omega), e0]
        rfl
      · rw [show i + 1 + (m - 1) = i + m by omega]
        by_cases hq : p.len - i ≤ 256 - (addr + i) % 256
        · left; omega
        · right; omega
      · rw [show addr + i + 1 + (m - 1) = addr + i + m by omega, show i + 1 + (m - 1) = i + m by omega]
        exact h3
    · rw [hz, cond_true] at hr
      cases hr
      have hm' : m - 1 = 0 := Nat.eq_of_beq_eq_true hz
      have : m = 1 := by omega
      subst this
      right
      refine ⟨f, e2, ?_, hs', h3⟩
      by_cases hq : p.len - i ≤ 256 - (addr + i) % 256
      · exact .inr (.inr (by omega))
      · exact .inr (.inl (by omega))
theorem all2_5 {α β : Type} {R : α → β → Prop} {a b c d e : α} {l : List β} (h : All2 R [a, b, c, d, e] l) : ∃ x y z u v, l = [x, y, z, u, v] ∧ R a x ∧ R b y ∧ R c z ∧ R d u ∧ R e v := by
  cases h with | cons h1 h => cases h with | cons h2 h => cases h with | cons h3 h => cases h with | cons h4 h => cases h with | cons h5 h => cases h; exact ⟨_, _, _, _, _, rfl, h1, h2, h3, h4, h5⟩
/-- The summary of 'write' stands for the code. -/
theorem write_ok {C : CallF} (hC : CallOk Tryz.prog C) {fAll : Nat} (hAll : fAll = 276) {args : List XA} {r : XV × EH × Nat} (he : s_write C fAll args eh n = some r) {args' : List Value} (hs : XSim F ρ n eh h) (ha : All2 (RA ρ) args args') : AM.Spec Tryz.prog 243 args' h (CPost F ρ r) := by
  subst hAll
  unfold s_write at he
  split at he
  rotate_left
  · cases he
  rename_i m addr bb bo len cap most need
  split at he
  rotate_left
  · cases he
  rename_i mb mo hptr
  obtain ⟨hc, he⟩ := bif_some he
  simp only [Bool.and_eq_true, blt_iff, ble_iff] at hc
  obtain ⟨⟨hmost, hl0⟩, hlen⟩ := hc
  split at he
  rotate_left
  · cases he
  rename_i va ea na hca
  obtain ⟨hva, he⟩ := bif_some he
  split at he
  rotate_left
  · cases he
  rename_i ehf hrun
  cases he
  obtain ⟨a1, a2, a3, a4, a5, rfl, h1, h2, h3, h4, h5⟩ := all2_5 ha
  unfold ptrC at hptr
  split at hptr
  rotate_left
  · cases hptr
  cases hptr
  obtain ⟨mb', t, hm, rfl⟩ := h1.toC.ptr
  obtain ⟨bb', t2, hbb, rfl⟩ := h3.toC.sl
  obtain rfl := h2.toC.self_eq rfl
  obtain rfl := h4.toC.self_eq rfl
  refine F243_spec _ _ _ _ _ _ _ ?_
  unfold F243 F243_0
  have d0 : decide ((most : Int) < (len : Int)) = false := by simp; omega
  simp only [len_sl]
  rw [bin_gtr]
  have d0' : decide (Int.ofNat most < (len : Int)) = false := d0
  rw [d0', if_false', call_iff (by simp only [List.all_cons, List.all_nil, bx_ptr, bx_int, h5.boxV, Bool.and_true])]
  refine (hC _ _ _ _ _ hca F ρ h _ hs (.cons h1 (.cons h2 (.cons (.c (.of_self rfl)) (.cons h5 .nil))))).mono ?_
  rintro v h1' ⟨ρ', hle, hs1, hv⟩
  unfold isTrueX at hva
  split at hva
  rotate_left
  · cases hva
  subst hva
  have : v = .bool true := by cases hv with | a hv => exact hv.toC.self_eq rfl
  subst this
  rw [un_not]
  show o_if (.bool false) _ _
  rw [if_false']
  unfold F243_1 F243_2
  simp only [len_sl]
  unfold F243_3 F243_4
  have hm' := hle _ _ hm
  have hbb' := hle _ _ hbb
  refine ⟨fun m s h' => ∃ i, s = (.pointer (some ⟨mb', mo, none⟩), .int .u32 addr, .slice (some ⟨bb', bo, none⟩) len cap, .int .i64 len, .int .i64 (i : Nat)) ∧ i ≤ len ∧ m = len - i ∧ (MidW F ρ' na ⟨mb, mo, bb, bo, len⟩ addr ehf i h' ∨ EdgeW F ρ' na ⟨mb, mo, bb, bo, len⟩ addr ehf i h'),
    ⟨len, 0, rfl, Nat.zero_le _, rfl, .inr ⟨_, ea, .inl rfl, hs1, hrun⟩⟩, ?_⟩
  rintro m s h' ⟨i, rfl, hi, rfl, hM⟩
  by_cases hlt : i < len
  · rcases hM with hM | hM
    · obtain ⟨q1, q2, q3, eh', e1, g1, g2, g3⟩ := midW_step hM hlen
      refine write_body (p := ⟨mb, mo, bb, bo, len⟩) (e2 := e1) g1 hm' hbb' hlt hlen g2 (by rw [if_neg (by rintro (h | h) <;> contradiction)]) fun h'' hs'' => ?_
      exact ⟨len - (i + 1), by omega, i + 1, rfl, hlt, rfl, g3 h'' hs''⟩
    · obtain ⟨q1, eh', e1, e2, g1, g2, g3, g4⟩ := edgeW_step hM hlt hlen
      refine write_body (p := ⟨mb, mo, bb, bo, len⟩) g1 hm' hbb' hlt hlen g2 (by rw [if_pos q1]; exact g3) fun h'' hs'' => ?_
      exact ⟨len - (i + 1), by omega, i + 1, rfl, hlt, rfl, g4 h'' hs''⟩
  · have hil : i = len := by omega
    subst hil
    rcases hM with hM | hM
    · obtain ⟨q1, _⟩ := midW_step hM hlen
      exact absurd q1 (Nat.lt_irrefl _)
    · obtain ⟨f, e, k1, k2, k3⟩ := hM
      unfold F243_5
      have d1 : decide ((i : Int) < (i : Int)) = false := by simp
      rw [bin_lss, d1, if_false']
      have : e = ehf := by
        cases f <;> simp only [w_run, Nat.beq_refl, cond_true] at k3 <;> cases k3 <;> rfl
      subst this
      unfold F243_16
      exact ⟨ρ', hle, k2, .a (.c (.of_self rfl))⟩
end
end Go.Proofs.YtjdhldfeflmneaaGreat
