/-
  The summaries of 'put' and what it calls stand for the code.
-/
import Derived.Test.YtjdhldfeflmneaaGreatS1
import Derived.Test.YtjdhldfeflmneaaGreatG1
set_option linter.unusedSimpArgs false
set_option linter.unusedVariables false
namespace Go.Proofs.YtjdhldfeflmneaaGreat
open Go.Proofs.YtjdhldfeflmneaaGreat.AM
section
variable {F : H} {ρ : Ren} {n : Nat} {eh : EH} {h : H}
theorem cell_of {b b' o : Nat} {t : LObj} {v : Value} (hs : XSim F ρ n eh h) (hb : ρ b = some (b', t)) (he : cellE eh b o = some v) : ∃ v', AM.cellAt h b' o = some v' ∧ RC ρ v v' := by
  unfold cellE at he
  split at he
  · rename_i r E w hg
    obtain ⟨cs, h1, h2⟩ := hs.cells hg hb
    rw [R.get_eq] at he
    obtain ⟨v', h3, h4⟩ := h2.get he
    exact ⟨v', by rw [cellAt_of h1]; exact h3, h4⟩
  · cases he
theorem cellG_of {b b' o : Nat} {t : LObj} {v : Value} {r : R} {E : TypeId} {w : AM.Own} (hs : XSim F ρ n eh h) (hb : ρ b = some (b', t)) (hg : eh.get b = some (.cells r E w)) (he : r.get o = some v) : ∃ v', AM.cellAt h b' o = some v' ∧ RC ρ v v' :=
  cell_of hs hb (by simp only [cellE, hg]; exact he)
theorem cellI_of {b b' o : Nat} {t : LObj} {k : IntKind} {i : Int} {r : R} {E : TypeId} {w : AM.Own} (hs : XSim F ρ n eh h) (hb : ρ b = some (b', t)) (hg : eh.get b = some (.cells r E w)) (he : r.get o = some (.int k i)) : AM.cellAt h b' o = some (.int k i) := by
  obtain ⟨v', h1, h2⟩ := cellG_of hs hb hg he
  rw [h2.self_eq rfl] at h1; exact h1
theorem nil_ptr {a : Addr} {K : Value → Prop} : o_nilCheck (.pointer (some a)) K = K (.pointer (some a)) := rfl
theorem p_at_lt {r : R} {lo cnt base k : Nat} : ∀ {f j : Nat}, p_at r lo cnt base f j = some k → k < cnt
  | 0, j, hp => by cases hp
  | f + 1, j, hp => by
    simp only [p_at] at hp
    cases hb : Nat.blt j cnt
    · rw [hb] at hp; cases hp
    · rw [hb, cond_true] at hp
      split at hp
      · rename_i x hx
        cases hb2 : Nat.blt x base
        · rw [hb2] at hp; cases hp; exact blt_iff.1 hb
        · rw [hb2] at hp; exact p_at_lt hp
      · cases hp
theorem base_eq {a : Nat} (ha : a < 4294967296) : IntKind.u32.wrap ((a : Int) - (a : Int).tmod 256) = ((a - a % 256 : Nat) : Int) := by
  have e : (a : Int).tmod 256 = ((a % 256 : Nat) : Int) := by rw [Int.tmod_eq_emod_of_nonneg (by omega)]; omega
  rw [e, wrapu32 (by omega) (by omega)]; omega
theorem rem_eq {a : Nat} : (a : Int).tmod 256 = ((a % 256 : Nat) : Int) := by rw [Int.tmod_eq_emod_of_nonneg (by omega)]; omega
set_option maxRecDepth 10000 in
theorem at_ok {mb mb' mo lb lo cnt cap a fuel k : Nat} {t : LObj} {r : R} {E : TypeId} {w : AM.Own} (hs : XSim F ρ n eh h) (hm : ρ mb = some (mb', t)) (hc : cellE eh mb (mo + 1) = some (.slice (some ⟨lb, lo, none⟩) cnt cap))
    (hg : eh.get lb = some (.cells r E w)) (ha : a < 4294967296) (hcnt : cnt < 1000000) (hp : p_at r lo cnt (a - a % 256) fuel 0 = some k) {Q : Value → H → Prop} (hq : ∀ f, Q (.tuple #[.int .i64 k, .bool f]) h) :
    F175 (.pointer (some ⟨mb', mo, none⟩)) (.int .u32 a) h Q := by
  obtain ⟨v', hv, hr⟩ := cell_of hs hm hc
  obtain ⟨lb', t', hl, rfl⟩ := hr.sl
  have hk := p_at_lt hp
  unfold F175 F175_0
  rw [bin_rem (by decide), bin_sub, base_eq ha]
  generalize a - a % 256 = base at *
  unfold F175_1 F175_2 F175_3
  refine ⟨fun m s h2 => h2 = h ∧ ∃ j : Nat, s = (.pointer (some ⟨mb', mo, none⟩), .int .u32 base, .int .i64 j) ∧ p_at r lo cnt base m j = some k, ⟨fuel, rfl, 0, rfl, hp⟩, ?_⟩
  rintro m s h2 ⟨rfl, j, rfl, hj⟩
  cases m with
  | zero => cases hj
  | succ m =>
    simp only [p_at] at hj
    cases hb : Nat.blt j cnt
    · rw [hb] at hj; cases hj
    rw [hb, cond_true] at hj
    have hjc := blt_iff.1 hb
    split at hj
    rotate_left
    · cases hj
    rename_i x hx
    have hcell := cellI_of hs hl hg hx
    unfold F175_4
    simp only [nil_ptr, field_addr, load_cell hv, len_sl, bin_lss]
    have d1 : decide ((j : Int) < (cnt : Int)) = true := by simp; omega
    have e1 : lo + (j : Int).toNat * 258 + 0 = lo + 258 * j := by simp; omega
    simp only [d1, guard_tt, index_sl (show (0 : Int) ≤ (j : Int) by omega) (show (j : Int) < (cnt : Int) by omega), field_addr, e1, load_cell hcell, pick_true]
    cases hb2 : Nat.blt x base
    · rw [hb2, cond_false] at hj; cases hj
      have d2 : decide ((x : Int) < (base : Int)) = false := by simp; exact blt_false.1 hb2
      have d2' : decide (Int.ofNat x < (base : Int)) = false := d2
      simp only [bin_lss, d2', if_false']
      unfold F175_5 F175_6 F175_7
      simp only [nil_ptr, field_addr, load_cell hv, len_sl, bin_lss]
      simp only [d1, guard_tt, index_sl (show (0 : Int) ≤ (k : Int) by omega) (show (k : Int) < (cnt : Int) by omega), field_addr, e1, load_cell hcell, pick_true, bin_eql]
      exact hq _
    · rw [hb2, cond_true] at hj
      have d2' : decide (Int.ofNat x < (base : Int)) = true := by have := blt_iff.1 hb2; simp; omega
      simp only [bin_lss, d2', if_true', bin_add]
      have e2 : IntKind.i64.wrap ((j : Int) + 1) = ((j + 1 : Nat) : Int) := by rw [wrap64 (by omega) (by omega)]; omega
      rw [e2]
      exact ⟨m, Nat.lt_succ_self m, trivial, j + 1, rfl, hj⟩
theorem store1 {b b' o : Nat} {t : LObj} {r : R} {E : TypeId} {w : AM.Own} {v v' : Value} (hs : XSim F ρ n eh h) (hg : eh.get b = some (.cells r E w)) (hb : ρ b = some (b', t)) (hw : notRo w = true) (hsz : o < r.size) (hv : RC ρ v v')
    {K : H → Prop} (hk : ∀ h', XSim F ρ n (eh.set b (.cells (r.set o v) E w)) h' → K h') : o_store 1 (.pointer (some ⟨b', o, none⟩)) v' h K := by
  refine e_store_ok (x := .c (.pointer (some ⟨b, o, none⟩))) (y := .c v) hs (.c (.s (.ptr hb))) (.c hv) ?_ hk
  have e : (notRo w && Nat.ble (o + 1) r.size) = true := by rw [hw, ble_iff.2 (by omega)]; rfl
  simp only [e_store, hg, e, cond_true, Nat.beq_refl]
theorem p_find_lt {r : R} {go cnt base k : Nat} : ∀ {f j : Nat}, p_find r go cnt base f j = some k → k < cnt
  | 0, j, hp => by cases hp
  | f + 1, j, hp => by
    simp only [p_find] at hp
    cases hb : Nat.blt j cnt
    · rw [hb] at hp; cases hp
    · rw [hb, cond_true] at hp
      split at hp
      · rename_i x hx
        cases hb2 : Nat.beq x base
        · rw [hb2] at hp; exact p_find_lt hp
        · rw [hb2] at hp; cases hp; exact blt_iff.1 hb
      · cases hp
set_option maxRecDepth 10000 in
theorem bump_ok {p : WP} {mb' a : Nat} {t : LObj} {eh' : EH} (hs : XSim F ρ n eh h) (hm : ρ p.mb = some (mb', t)) (hp : p_gen p eh a = some eh') {Q : Value → H → Prop} (hq : ∀ h', XSim F ρ n eh' h' → Q (.tuple #[]) h') :
    F176 (.pointer (some ⟨mb', p.mo, none⟩)) (.int .u32 a) h Q := by
  unfold p_gen at hp
  split at hp
  rotate_left
  · cases hp
  rename_i gb go cnt cap hc
  obtain ⟨v', hv, hr⟩ := cell_of hs hm hc
  obtain ⟨gb', t', hl, rfl⟩ := hr.sl
  split at hp
  rotate_left
  · cases hp
  rename_i r E w hg
  split at hp
  rotate_left
  · cases hp
  rename_i k hf
  split at hp
  rotate_left
  · cases hp
  rename_i x hx
  cases hb : (notRo w && Nat.blt cnt 1000000 && Nat.blt a 4294967296 && Nat.blt (go + 2 * k + 1) r.size && !Nat.beq gb p.mb && !Nat.beq gb p.bb)
  · rw [hb] at hp; cases hp
  rw [hb, cond_true] at hp
  cases hp
  simp only [Bool.and_eq_true, blt_iff] at hb
  obtain ⟨⟨⟨⟨⟨hw, hcnt⟩, ha⟩, hsz⟩, _⟩, _⟩ := hb
  have hk := p_find_lt hf
  unfold F176 F176_0
  rw [bin_rem (by decide), bin_sub, base_eq ha]
  change p_find r go cnt (a - a % 256) 5000 0 = some k at hf
  generalize a - a % 256 = base at *
  unfold F176_1 F176_2 F176_3 F176_4
  refine ⟨fun m s h2 => h2 = h ∧ ∃ j : Nat, s = (.pointer (some ⟨mb', p.mo, none⟩), .int .u32 base, .int .i64 j) ∧ p_find r go cnt base m j = some k, ⟨5000, rfl, 0, rfl, hf⟩, ?_⟩
  rintro m s h2 ⟨rfl, j, rfl, hj⟩
  cases m with
  | zero => cases hj
  | succ m =>
    simp only [p_find] at hj
    cases hb : Nat.blt j cnt
    · rw [hb] at hj; cases hj
    rw [hb, cond_true] at hj
    have hjc := blt_iff.1 hb
    split at hj
    rotate_left
    · cases hj
    rename_i y hy
    have hcell := cellI_of hs hl hg hy
    unfold F176_5
    have d1 : decide ((j : Int) < (cnt : Int)) = true := by simp; omega
    have e1 : go + (j : Int).toNat * 2 + 0 = go + 2 * j := by simp; omega
    simp only [nil_ptr, field_addr, load_cell hv, len_sl, bin_lss, d1, if_true', index_sl (show (0 : Int) ≤ (j : Int) by omega) (show (j : Int) < (cnt : Int) by omega), e1]
    rw [load_cell hcell, bin_eql]
    cases hb2 : Nat.beq y base
    · rw [hb2, cond_false] at hj
      have d2 : decide (Int.ofNat y = (base : Int)) = false := by
        have : y ≠ base := fun e => by rw [e, Nat.beq_refl] at hb2; cases hb2
        simp; omega
      rw [d2]
      simp only [if_false', bin_add]
      have e2 : IntKind.i64.wrap ((j : Int) + 1) = ((j + 1 : Nat) : Int) := by rw [wrap64 (by omega) (by omega)]; omega
      rw [e2]
      exact ⟨m, Nat.lt_succ_self m, trivial, j + 1, rfl, hj⟩
    · rw [hb2, cond_true] at hj
      cases hj
      have hyb := Nat.eq_of_beq_eq_true hb2
      subst hyb
      have d2 : decide (Int.ofNat y = (y : Int)) = true := by simp
      rw [d2]
      simp only [if_true', index_sl (show (0 : Int) ≤ (k : Int) by omega) (show (k : Int) < (cnt : Int) by omega), field_addr]
      have e3 : go + (k : Int).toNat * 2 + 1 = go + 2 * k + 1 := by simp; omega
      have hcell2 := cellI_of hs hl hg hx
      rw [e3, load_cell hcell2, bin_add]
      refine store1 hs hg hl hw hsz (.of_self rfl) fun h' hs' => hq _ ?_
      rw [wrapF_eq]; exact hs'
/-- A round of 'put'. -/
theorem put_body {p : WP} {mb' bb' addr i k cap : Nat} {t t2 : LObj} {e1 e2 : EH} (hs : XSim F ρ n eh h) (hm : ρ p.mb = some (mb', t)) (hbb : ρ p.bb = some (bb', t2)) (hi : i < p.len) (hlen : addr + p.len ≤ 4294967296) (hp : p_first p eh (addr + i) i = some (e1, k))
    (hgen : if i = 0 ∨ (addr + i) % 256 = 0 then p_gen p e1 (addr + i) = some e2 else e2 = e1) {Kn : Value → Value → Value → Value → H → Prop} {Kr Ke : H → Prop}
    (hk : ∀ h', XSim F ρ n e2 h' → Kn (.pointer (some ⟨mb', p.mo, none⟩)) (.int .u32 addr) (.slice (some ⟨bb', p.bo, none⟩) p.len cap) (.int .i64 (i + 1 : Nat)) h') :
    F178_3 (.pointer (some ⟨mb', p.mo, none⟩)) (.int .u32 addr) (.slice (some ⟨bb', p.bo, none⟩) p.len cap) (.int .i64 i) h Kn Kr Ke := by
  unfold p_first at hp
  split at hp
  rotate_left
  · cases hp
  rename_i lb lo cnt v hpm hv
  unfold p_mem at hpm
  split at hpm
  rotate_left
  · cases hpm
  rename_i lb' lo' cnt' cap' hc
  cases hpm
  split at hp
  rotate_left
  · cases hp
  rename_i r E w hg
  split at hp
  rotate_left
  · cases hp
  rename_i k' hat
  cases hb : (notRo w && Nat.blt (lo + 258 * k' + 2 + Nat.mod (addr + i) 256) r.size && Nat.blt cnt 1000000 && Nat.blt (addr + i) 4294967296 && !Nat.beq lb p.mb && !Nat.beq lb p.bb)
  · rw [hb] at hp; cases hp
  rw [hb, cond_true] at hp
  cases hp
  simp only [Bool.and_eq_true, blt_iff] at hb
  obtain ⟨⟨⟨⟨⟨hw, hsz⟩, hcnt⟩, ha⟩, _⟩, _⟩ := hb
  obtain ⟨v', hv', hrv⟩ := cell_of hs hbb hv
  obtain ⟨ls, hls, hrl⟩ := cell_of hs hm hc
  obtain ⟨lb', t', hl, rfl⟩ := hrl.sl
  have hkc := p_at_lt hat
  unfold F178_3
  have d1 : decide ((i : Int) < (p.len : Int)) = true := by simp; omega
  simp only [len_sl, bin_lss, d1, if_true']
  unfold F178_4 F178_5 F178_6
  have e1 : IntKind.u32.wrap (i : Int) = (i : Int) := wrapu32 (by omega) (by omega)
  have e2' : IntKind.u32.wrap ((addr : Int) + (i : Int)) = ((addr + i : Nat) : Int) := by rw [wrapu32 (by omega) (by omega)]; omega
  simp only [conv_int, e1, bin_add, e2']
  rw [call_iff rfl]
  refine F175_spec _ _ _ _ (at_ok hs hm hc hg ha hcnt hat fun f => ?_)
  rw [ex0, ex1]
  unfold F178_7 F178_8
  simp only [nil_ptr, field_addr, load_cell hls]
  rw [bin_rem (by decide), rem_eq]
  have e3 : p.bo + (i : Int).toNat * 1 = p.bo + i := by simp
  rw [index_sl (show (0 : Int) ≤ (i : Int) by omega) (show (i : Int) < (p.len : Int) by omega), e3, load_cell hv', index_sl (show (0 : Int) ≤ (k : Int) by omega) (show (k : Int) < (cnt : Int) by omega)]
  simp only [field_addr]
  have hmod : (addr + i) % 256 < 256 := Nat.mod_lt _ (by decide)
  rw [index_arr (show (0 : Int) ≤ (((addr + i) % 256 : Nat) : Int) by omega) (by omega)]
  have e4 : lo + (k : Int).toNat * 258 + 2 + (((addr + i) % 256 : Nat) : Int).toNat * 1 = lo + 258 * k + 2 + (addr + i) % 256 := by simp; omega
  rw [e4]
  refine store1 hs hg hl hw hsz hrv fun h1 hs1 => ?_
  have hfin : ∀ h', XSim F ρ n e2 h' → F178_10 (.pointer (some ⟨mb', p.mo, none⟩)) (.int .u32 addr) (.slice (some ⟨bb', p.bo, none⟩) p.len cap) (.int .i64 i) h' Kn Kr Ke := by
    intro h' hs'
    unfold F178_10
    have e5 : IntKind.i64.wrap ((i : Int) + 1) = ((i + 1 : Nat) : Int) := by rw [wrap64 (by omega) (by omega)]; omega
    rw [bin_add, e5]
    exact hk h' hs'
  have hbump : p_gen p _ (addr + i) = some e2 → AM.Spec Tryz.prog 176 [.pointer (some ⟨mb', p.mo, none⟩), .int .u32 (addr + i : Nat)] h1 fun _ h => F178_10 (.pointer (some ⟨mb', p.mo, none⟩)) (.int .u32 addr) (.slice (some ⟨bb', p.bo, none⟩) p.len cap) (.int .i64 i) h Kn Kr Ke := fun hg2 =>
    F176_spec _ _ _ _ (bump_ok hs1 hm hg2 fun h' hs' => hfin h' hs')
  unfold F178_9
  rw [bin_eql]
  by_cases hi0 : i = 0
  · subst hi0
    rw [if_pos (Or.inl rfl)] at hgen
    have d2 : decide (((0 : Nat) : Int) = 0) = true := rfl
    rw [d2, guard_tf, pick_true]
    rw [if_true', call_iff rfl]
    exact hbump hgen
  · have d2 : decide ((i : Int) = 0) = false := by simp; omega
    rw [d2, guard_ff, bin_rem (by decide), rem_eq, bin_eql]
    simp only [pick_false]
    by_cases hi1 : (addr + i) % 256 = 0
    · rw [if_pos (Or.inr hi1)] at hgen
      have d3 : decide ((((addr + i) % 256 : Nat) : Int) = 0) = true := by rw [hi1]; rfl
      rw [d3, if_true', call_iff rfl]
      exact hbump hgen
    · rw [if_neg (by rintro (h | h) <;> contradiction)] at hgen
      have d3 : decide ((((addr + i) % 256 : Nat) : Int) = 0) = false := by simp; omega
      rw [d3, if_false']
      subst hgen
      exact hfin _ hs1
end
end Go.Proofs.YtjdhldfeflmneaaGreat
