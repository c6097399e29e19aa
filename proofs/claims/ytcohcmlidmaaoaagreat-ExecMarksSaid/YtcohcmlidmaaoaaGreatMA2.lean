/-
  mem.Load and mem.Store at the two places that a list of marks stores to.
-/
import Derived.Test.YtcohcmlidmaaoaaGreatMA1
set_option linter.unusedSimpArgs false
set_option linter.unusedVariables false
set_option maxRecDepth 100000
namespace Go.Proofs.YtcohcmlidmaaoaaGreat
open AM
def xsOf (cs : List Value) (o i : Nat) : Int := match cs[o + i]? with
  | some (.int _ x) => x
  | _ => 0
def ldv (xs : Nat → Int) : Nat → Int
  | 0 => 0
  | i + 1 => IntKind.u32.wrap ((BitVec.ofInt IntKind.u32.bits (ldv xs i) ||| BitVec.ofInt IntKind.u32.bits (IntKind.u32.wrap (IntKind.u32.wrap (xs i) * 2 ^ (min (8 * (i : Int)).toNat IntKind.u32.bits)))).toNat : Int)
section
variable {D : MD} {s : St} {h h' : H}
theorem pg_of {a : Int} (hm : MH D s h) : ∃ w cs E, h (pgOf D a) = some (.cells cs E .exact) ∧ cs.length = 257 ∧ cs[256]? = some (.int .i64 w) ∧ ∀ i, i < 256 → ∃ x : Int, cs[i]? = some (.int .u8 x) := by
  unfold pgOf
  split
  · obtain ⟨cs, E, h1⟩ := hm.p1.ex; exact ⟨7, cs, E, h1⟩
  · obtain ⟨cs, E, h1⟩ := hm.p2.ex; exact ⟨3, cs, E, h1⟩
theorem off_of {a : Int} (ha : a = 4200 ∨ a = 65536) : ∃ o : Nat, a.tmod 256 = o ∧ o + 4 ≤ 256 := by
  rcases ha with rfl | rfl
  · exact ⟨104, rfl, by decide⟩
  · exact ⟨0, rfl, by decide⟩
theorem load_spec {a : Int} (ha : a = 4200 ∨ a = 65536) (hm : MH D s h) : ∃ w : Int, ∀ K : Value → H → Prop, K (.tuple #[.int .u32 w, .int .i64 0]) h → AM.Spec Tryz.prog 61 [ptr D.q 0, .int .u32 a, .int .i64 4, .int .i64 2] h K := by
  obtain ⟨w0, cs, E, hb, hl, _, hby⟩ := pg_of (a := a) hm
  obtain ⟨o, ho, ho4⟩ := off_of ha
  refine ⟨ldv (xsOf cs o) 4, fun K hk => ?_⟩
  refine F61_spec _ _ _ _ _ _ ?_
  unfold F61 F61_0
  refine ⟨rfl, look_spec ha hm ?_⟩
  have d0 : (!decide ((0 : Int) = 0)) = false := rfl
  rw [ex0, ex1, bin_neq, d0, if_false']
  unfold F61_1 F61_2 F61_3 F61_4
  rw [conv_int]
  have e1 : IntKind.u32.wrap 4 = 4 := rfl
  rw [e1]
  refine ⟨fun n s h' => h' = h ∧ ∃ i : Nat, i ≤ 4 ∧ n = 4 - i ∧ s = (.int .u32 a, ptr (pgOf D a) 0, .int .u32 (ldv (xsOf cs o) i), .int .u32 4, .int .u32 (i : Nat)), ⟨4, rfl, 0, by omega, rfl, rfl⟩, ?_⟩
  rintro n s h' ⟨rfl, i, hi, rfl, rfl⟩
  simp only [F61_5, bin_lss]
  by_cases hlt : i < 4
  · have d1 : decide ((i : Int) < 4) = true := by simp; omega
    obtain ⟨x, hx⟩ := hby (o + i) (by omega)
    have hxs : xsOf cs o i = x := by unfold xsOf; rw [hx]
    rw [d1, if_true', bin_rem (by decide), ho, bin_add]
    have e2 : IntKind.u32.wrap ((o : Int) + (i : Int)) = ((o + i : Nat) : Int) := by rw [wrapu32 (by omega) (by omega)]; omega
    rw [e2, nil_ptr, field_addr, index_arr (by omega) (by omega)]
    have e3 : 0 + 0 + ((o + i : Nat) : Int).toNat * 1 = o + i := by rw [Int.toNat_natCast]; omega
    rw [e3, load_cell (v := .int .u8 x) (by rw [cellAt_of hb]; exact hx), conv_int, bin_mul]
    have e4 : IntKind.u32.wrap (8 * (i : Int)) = 8 * (i : Int) := wrapu32 (by omega) (by omega)
    rw [e4, bin_shl (by omega), bin_or, bin_add]
    have e5 : IntKind.u32.wrap ((i : Int) + 1) = ((i + 1 : Nat) : Int) := by rw [wrapu32 (by omega) (by omega)]; omega
    rw [e5]
    refine ⟨4 - (i + 1), by omega, trivial, i + 1, by omega, rfl, ?_⟩
    rw [ldv, hxs]
  · have d1 : decide ((i : Int) < 4) = false := by simp; omega
    rw [d1, if_false']
    have : i = 4 := by omega
    subst this
    exact hk
theorem MH.setP (hm : MH D s h) {a : Int} {cs : List Value} {E : TypeId} (hb : h (pgOf D a) = some (.cells cs E .exact)) {j : Nat} (hj : j < 256) (y : Int) : MH D s (AM.upd h (pgOf D a) (.cells (cs.set j (.int .u8 y)) E .exact)) := by
  have hn := hm.ne
  have one : ∀ b w, PgH h b w → h b = some (.cells cs E .exact) → PgH (AM.upd h b (.cells (cs.set j (.int .u8 y)) E .exact)) b w := by
    intro b w hp hbb
    obtain ⟨cs', E', h1, h2, h3, h4⟩ := hp.ex
    rw [hbb] at h1
    cases h1
    refine ⟨_, _, upd_same _ _ _, by simpa using h2, by rw [List.getElem?_set_ne (by omega)]; exact h3, fun i hi => ?_⟩
    by_cases hij : j = i
    · subst hij
      exact ⟨y, by rw [List.getElem?_set_self (by omega)]⟩
    · rw [List.getElem?_set_ne hij]; exact h4 i hi
  unfold pgOf at *
  split
  · rename_i ha
    rw [if_pos ha] at hb
    exact ⟨hm.nd, by rw [upd_ne _ _ (by omega)]; exact hm.m, by rw [upd_ne _ _ (by omega)]; exact hm.q, by rw [upd_ne _ _ (by omega)]; exact hm.pm, by rw [upd_ne _ _ (by omega)]; exact hm.gm, one _ _ hm.p1 hb, hm.p2.keep (upd_ne _ _ (show D.p2 ≠ D.p1 by omega))⟩
  · rename_i ha
    rw [if_neg ha] at hb
    exact ⟨hm.nd, by rw [upd_ne _ _ (by omega)]; exact hm.m, by rw [upd_ne _ _ (by omega)]; exact hm.q, by rw [upd_ne _ _ (by omega)]; exact hm.pm, by rw [upd_ne _ _ (by omega)]; exact hm.gm, hm.p1.keep (upd_ne _ _ (show D.p1 ≠ D.p2 by omega)), one _ _ hm.p2 hb⟩
theorem pg_in {a : Int} : pgOf D a ∈ D.bl := by
  unfold pgOf MD.bl; split <;> simp
/-- The state behind a store to a place. -/
def stored (s : St) (a : Int) : St := ⟨s.pc, s.ret, if a = 4200 then IntKind.u32.wrap (s.g + 1) else s.g⟩
theorem MH.setG (hm : MH D s h) {a : Int} (ha : a = 4200 ∨ a = 65536) {es : List (Value × Value)} {ck ck' : Nat} (hb : h D.gm = some (.map (.int .u32) es ck)) {x : Int} (hx : mfind es (.int .u32 (a - a % 256)) = some (.int .u32 x)) :
    MH D (stored s a) (AM.upd h D.gm (.map (.int .u32) (mset es (.int .u32 (a - a % 256)) (.int .u32 (IntKind.u32.wrap (x + 1)))) ck')) := by
  have hn := hm.ne
  obtain ⟨es', ck2, h1, h2, x2, h3⟩ := hm.gm
  rw [hb] at h1
  cases h1
  refine ⟨hm.nd, by rw [upd_ne _ _ (by omega)]; exact hm.m, by rw [upd_ne _ _ (by omega)]; exact hm.q, by rw [upd_ne _ _ (by omega)]; exact hm.pm, ⟨_, _, upd_same _ _ _, ?_⟩, hm.p1.keep (upd_ne _ _ (show D.p1 ≠ D.gm by omega)), hm.p2.keep (upd_ne _ _ (show D.p2 ≠ D.gm by omega))⟩
  rcases ha with rfl | rfl
  · have e : (4200 : Int) - 4200 % 256 = 4096 := rfl
    rw [e] at hx ⊢
    rw [h2] at hx
    cases hx
    refine ⟨?_, x2, ?_⟩
    · rw [mfind_mset_same rfl]; simp [stored]
    · rw [mfind_mset_ne (by decide)]; exact h3
  · have e : (65536 : Int) - 65536 % 256 = 65536 := rfl
    rw [e] at hx ⊢
    refine ⟨?_, _, mfind_mset_same rfl⟩
    rw [mfind_mset_ne (by decide), h2]; simp [stored]
theorem store_spec {a v : Int} {K : Value → H → Prop} (ha : a = 4200 ∨ a = 65536) (hm : MH D s h) (hk : ∀ h', MH D (stored s a) h' → (∀ b, b ∉ D.bl → h' b = h b) → K (.int .i64 0) h') : AM.Spec Tryz.prog 137 [ptr D.q 0, .int .u32 a, .int .i64 4, .int .u32 v] h K := by
  obtain ⟨o, ho, ho4⟩ := off_of ha
  refine F137_spec _ _ _ _ _ _ ?_
  unfold F137 F137_0
  refine ⟨rfl, look_spec ha hm ?_⟩
  have d0 : (!decide ((0 : Int) = 0)) = false := rfl
  rw [ex0, ex1, bin_neq, d0, if_false']
  unfold F137_1 F137_2 F137_3 F137_4
  rw [conv_int]
  have e1 : IntKind.u32.wrap 4 = 4 := rfl
  rw [e1]
  refine ⟨fun n st h' => MH D s h' ∧ (∀ b, b ∉ D.bl → h' b = h b) ∧ ∃ i : Nat, i ≤ 4 ∧ n = 4 - i ∧ st = (ptr D.q 0, .int .u32 a, .int .u32 v, ptr (pgOf D a) 0, .int .u32 4, .int .u32 (i : Nat)), ⟨4, hm, fun _ _ => rfl, 0, by omega, rfl, rfl⟩, ?_⟩
  rintro n st h' ⟨hm', hkeep, i, hi, rfl, rfl⟩
  simp only [F137_5, bin_lss]
  by_cases hlt : i < 4
  · have d1 : decide ((i : Int) < 4) = true := by simp; omega
    obtain ⟨w0, cs, E, hb, hl, _, hby⟩ := pg_of (a := a) hm'
    rw [d1, if_true', bin_rem (by decide), ho, bin_add]
    have e2 : IntKind.u32.wrap ((o : Int) + (i : Int)) = ((o + i : Nat) : Int) := by rw [wrapu32 (by omega) (by omega)]; omega
    rw [e2, bin_mul]
    have e4 : IntKind.u32.wrap (8 * (i : Int)) = 8 * (i : Int) := wrapu32 (by omega) (by omega)
    rw [e4, bin_shr (by omega), conv_int, nil_ptr, field_addr, index_arr (by omega) (by omega)]
    have e3 : 0 + 0 + ((o + i : Nat) : Int).toNat * 1 = o + i := by rw [Int.toNat_natCast]; omega
    rw [e3, store_ok hb (by simp) (by rfl) (by rfl) (by omega), bin_add]
    have e5 : IntKind.u32.wrap ((i : Int) + 1) = ((i + 1 : Nat) : Int) := by rw [wrapu32 (by omega) (by omega)]; omega
    rw [e5]
    refine ⟨4 - (i + 1), by omega, hm'.setP hb (by omega) _, fun b hbn => ?_, i + 1, by omega, rfl, rfl⟩
    rw [upd_ne _ _ (show b ≠ pgOf D a from fun e => hbn (by rw [e]; exact pg_in))]; exact hkeep b hbn
  · have d1 : decide ((i : Int) < 4) = false := by simp; omega
    rw [d1, if_false']
    unfold F137_6 F137_7
    obtain ⟨cq, Eq, hq, _, hq2⟩ := hm'.q
    obtain ⟨es, ck, hg, hg1, x2, hg2⟩ := hm'.gm
    simp only [nil_ptr, field_addr, Nat.zero_add]
    rw [load_cell (v := .map (some D.gm)) (by rw [cellAt_of hq]; exact hq2)]
    have hf : ∃ x, mfind es (.int .u32 (a - a % 256)) = some (.int .u32 x) := by
      rcases ha with rfl | rfl
      · exact ⟨_, hg1⟩
      · exact ⟨_, hg2⟩
    obtain ⟨x, hf⟩ := hf
    obtain ⟨n, rfl⟩ : ∃ n : Nat, a = n := ⟨a.toNat, by omega⟩
    have hdc := fun K : Value → H → Prop => dcall_base (a := n) (K := K) (h := h') (by omega)
    rw [hdc]
    have e : ((n - n % 256 : Nat) : Int) = (n : Int) - (n : Int) % 256 := by omega
    rw [e]
    unfold o_lookup
    refine ⟨rfl, ?_⟩
    simp only [hg, hf]
    refine ⟨trivial, ?_⟩
    simp only [cond_false, bin_add]
    unfold o_mapUpdate
    refine ⟨rfl, rfl, ?_⟩
    simp only [hg]
    refine ⟨trivial, hk _ (hm'.setG ha hg hf) fun b hbn => ?_⟩
    rw [upd_ne _ _ (show b ≠ D.gm from fun e => hbn (by rw [e]; simp [MD.bl]))]; exact hkeep b hbn
end
end Go.Proofs.YtcohcmlidmaaoaaGreat
