/-
  The loop of 'put' stands for its summary.
-/
import Derived.Test.YtjdhldfeflmneaaGreatS2
set_option linter.unusedSimpArgs false
set_option linter.unusedVariables false
namespace Go.Proofs.YtjdhldfeflmneaaGreat
open Go.Proofs.YtjdhldfeflmneaaGreat.AM
theorem bif_some {α : Type} {c : Bool} {x : Option α} {y : α} (h : (bif c then x else none) = some y) : c = true ∧ x = some y := by
  cases c
  · cases h
  · exact ⟨rfl, h⟩
theorem all2_3 {α β : Type} {R : α → β → Prop} {a b c : α} {l : List β} (h : All2 R [a, b, c] l) : ∃ x y z, l = [x, y, z] ∧ R a x ∧ R b y ∧ R c z := by
  cases h with | cons h1 h => cases h with | cons h2 h => cases h with | cons h3 h => cases h; exact ⟨_, _, _, rfl, h1, h2, h3⟩
section
variable {F : H} {ρ : Ren} {n : Nat} {eh : EH} {h : H}
theorem setL_snoc : ∀ (vs cs : List Value) (o : Nat) (v : Value), setL cs o (vs ++ [v]) = (setL cs o vs).set (o + vs.length) v
  | [], cs, o, v => by simp [setL]
  | u :: vs, cs, o, v => by
    rw [List.cons_append, setL, setL, setL_snoc vs (cs.set o u) (o + 1) v]
    congr 1; simp; omega
theorem XSim.ext' (hs : XSim F ρ n eh h) {eh' : EH} (he : ∀ b, eh'.get b = eh.get b) : XSim F ρ n eh' h where
  z0 := hs.z0
  z1 := hs.z1
  two := hs.two
  top := hs.top
  n2 := hs.n2
  obj b o hb hd := hs.obj b o (he b ▸ hb) hd
  inj b c o o' x t t' h1 h2 h3 h4 h5 h6 := hs.inj b c o o' x t t' (he b ▸ h1) h2 (he c ▸ h3) h4 h5 h6
  fr := hs.fr
  fsep b o x t h1 h2 h3 := hs.fsep b o x t (he b ▸ h1) h2 h3
theorem XSim.reset (hs : XSim F ρ n eh h) {b b' : Nat} {t : LObj} {r r' : R} {E : TypeId} {w : AM.Own} (hg : eh.get b = some (.cells r E w)) (hb : ρ b = some (b', t)) (hr : r'.toL = r.toL) {eh' : EH} (he : ∀ c, eh'.get c = if c = b then some (.cells r' E w) else eh.get c) :
    XSim F ρ n eh' h := by
  obtain ⟨cs, h1, h2⟩ := hs.cells hg hb
  have := hs.upd (o := .cells r' E w) hg rfl hb (RO.cells (τ := t) (cs := cs) (by rw [hr]; exact h2))
  have e : AM.upd h b' (.cells cs E w) = h := by
    funext c
    by_cases hc : c = b'
    · subst hc; rw [upd_same, h1]
    · rw [upd_ne _ _ hc]
  rw [e] at this
  exact XSim.ext' this fun c => by rw [he, Tr.get_set]
theorem XSim.reset' (hs : XSim F ρ n eh h) {b : Nat} {r r' : R} {E : TypeId} {w : AM.Own} (hg : eh.get b = some (.cells r E w)) (hr : r'.toL = r.toL) {eh' : EH} (he : ∀ c, eh'.get c = if c = b then some (.cells r' E w) else eh.get c) :
    XSim F ρ n eh' h := by
  obtain ⟨b', t, _, h1, _⟩ := hs.obj b _ hg rfl
  exact XSim.reset hs hg h1 hr he
theorem cellE_set {b c q : Nat} {o : EO} (hc : c ≠ b) : cellE (eh.set b o) c q = cellE eh c q := by simp only [cellE, Tr.get_set, if_neg hc]
theorem nbeq {a b : Nat} (h : a ≠ b) : Nat.beq a b = false := Bool.eq_false_iff.2 fun e => h (Nat.eq_of_beq_eq_true e)
theorem R.set_size (r : R) (i : Nat) (v : Value) : (r.set i v).size = r.size := by rw [R.size_eq, R.size_eq, R.set_toL, List.length_set]
theorem R.splice_size (r : R) (o : Nat) (s : R) (h : o + s.size ≤ r.size) : (r.splice o s).size = r.size := by rw [R.size_eq, R.splice_toL _ _ _ h, setL_length, ← R.size_eq]
theorem R.take_size (r : R) (k : Nat) (h : k ≤ r.size) : (r.take k).size = k := by rw [R.size_eq] at *; rw [R.take_toL, List.length_take]; omega
theorem R.drop_size (r : R) (k : Nat) : (r.drop k).size = r.size - k := by rw [R.size_eq, R.size_eq, R.drop_toL, List.length_drop]
theorem splice_snoc {r s : R} {st c : Nat} {v : Value} (hc : c < s.size) (hv : s.get c = some v) (hl : st + s.size ≤ r.size) : ((r.splice st (s.take c)).set (st + c) v).toL = (r.splice st (s.take (c + 1))).toL := by
  have h1 : (s.take c).size = c := R.take_size _ _ (by omega)
  have h2 : (s.take (c + 1)).size = c + 1 := R.take_size _ _ (by omega)
  rw [R.set_toL, R.splice_toL _ _ _ (by omega), R.splice_toL _ _ _ (by omega), R.take_toL, R.take_toL]
  rw [R.get_eq] at hv
  rw [List.take_add_one, hv, Option.toList_some, setL_snoc]
  congr 1
  rw [List.length_take]
  rw [R.size_eq] at hc; omega
theorem setL_get_lt : ∀ (vs cs : List Value) (o i : Nat), i < o → (setL cs o vs)[i]? = cs[i]?
  | [], cs, o, i, _ => rfl
  | v :: vs, cs, o, i, hi => by
    rw [setL, setL_get_lt vs (cs.set o v) (o + 1) i (by omega), List.getElem?_set_ne (by omega)]
theorem splice_get_lt {r s : R} {o i : Nat} (hl : o + s.size ≤ r.size) (hi : i < o) : (r.splice o s).get i = r.get i := by
  rw [R.get_eq, R.get_eq, R.splice_toL _ _ _ hl, setL_get_lt _ _ _ _ hi]
theorem p_at_congr {r r' : R} {lo cnt base k : Nat} (hrr : ∀ i, i ≤ lo + 258 * k → r'.get i = r.get i) : ∀ {f j : Nat}, p_at r lo cnt base f j = some k → p_at r' lo cnt base f j = some k ∧ j ≤ k
  | 0, j, hp => by cases hp
  | f + 1, j, hp => by
    simp only [p_at] at hp ⊢
    cases hb : Nat.blt j cnt
    · rw [hb] at hp; cases hp
    · rw [hb, cond_true] at hp
      rw [cond_true]
      split at hp
      · rename_i x hx
        cases hb2 : Nat.blt x base
        · rw [hb2] at hp
          cases hp
          rw [hrr _ (Nat.le_refl _), hx]
          simp only [hb2, cond_false]
          exact ⟨trivial, Nat.le_refl _⟩
        · rw [hb2] at hp
          obtain ⟨h1, h2⟩ := p_at_congr hrr hp
          rw [hrr _ (by omega), hx]
          simp only [hb2, cond_true]
          exact ⟨h1, by omega⟩
      · cases hp
theorem minN_eq (a b : Nat) : minN a b = min a b := by
  unfold minN
  cases hb : Nat.ble a b
  · have := ble_false.1 hb; rw [bc_false]; omega
  · have := ble_iff.1 hb; rw [bc_true]; omega
/-- The round at byte i stands within a page: c bytes behind the first are done, of cnt. -/
def Mid (F : H) (ρ : Ren) (n : Nat) (p : WP) (addr : Nat) (ehf : EH) (i : Nat) (h : H) : Prop :=
  ∃ (e1 : EH) (lb lo num k c cnt : Nat) (r : R) (E : TypeId) (w : AM.Own) (br : R) (bE : TypeId) (bw : AM.Own) (f : Nat) (s : R),
    c < cnt ∧ c < i ∧ i - c + cnt ≤ p.len ∧ (addr + i) % 256 = (addr + (i - c)) % 256 + c ∧ (addr + (i - c)) % 256 ≠ 0 ∧ (addr + (i - c)) % 256 + cnt ≤ 256 ∧
    p_mem p e1 = some (lb, lo, num) ∧ e1.get lb = some (.cells r E w) ∧ e1.get p.bb = some (.cells br bE bw) ∧ p_at r lo num (addr + i - (addr + i) % 256) 5000 0 = some k ∧
    notRo w = true ∧ num < 1000000 ∧ lb ≠ p.mb ∧ lb ≠ p.bb ∧ lo + 258 * k + 2 + (addr + (i - c)) % 256 + cnt ≤ r.size ∧ p.bo + (i - c) + cnt ≤ br.size ∧
    s = (br.drop (p.bo + (i - c))).take cnt ∧
    XSim F ρ n (e1.set lb (.cells (r.splice (lo + 258 * k + 2 + (addr + (i - c)) % 256) (s.take c)) E w)) h ∧
    (i - c + cnt = p.len ∨ (addr + (i - c + cnt)) % 256 = 0) ∧
    p_run p f (e1.set lb (.cells (r.splice (lo + 258 * k + 2 + (addr + (i - c)) % 256) s) E w)) (addr + (i - c) + cnt) (i - c + cnt) = some ehf
def Edge' (F : H) (ρ : Ren) (n : Nat) (p : WP) (addr : Nat) (ehf : EH) (i : Nat) (h : H) : Prop :=
  ∃ f e, (i = 0 ∨ (addr + i) % 256 = 0 ∨ i = p.len) ∧ XSim F ρ n e h ∧ p_run p f e (addr + i) i = some ehf
/-- A round out of the midst of a page. -/
theorem mid_step {p : WP} {addr i : Nat} {ehf : EH} (hM : Mid F ρ n p addr ehf i h) (hlen : addr + p.len ≤ 4294967296) :
    i < p.len ∧ i ≠ 0 ∧ (addr + i) % 256 ≠ 0 ∧ ∃ eh k e1, XSim F ρ n eh h ∧ p_first p eh (addr + i) i = some (e1, k) ∧ ∀ h', XSim F ρ n e1 h' → Mid F ρ n p addr ehf (i + 1) h' ∨ Edge' F ρ n p addr ehf (i + 1) h' := by
  obtain ⟨e1, lb, lo, num, k, c, cnt, r, E, w, br, bE, bw, f, s, h1, h2, h3, h4, h5, h6, h7, h8, h9, h10, h11, h12, h13, h14, h15, h16, h17, h18, h19, h20⟩ := hM
  have hss : s.size = cnt := by rw [h17, R.take_size _ _ (by rw [R.drop_size]; omega)]
  have hsc : (s.take c).size = c := R.take_size _ _ (by omega)
  obtain ⟨v, hv⟩ : ∃ v, br.get (p.bo + i) = some v := by
    have : p.bo + i < br.toL.length := by rw [← R.size_eq]; omega
    exact ⟨br.toL[p.bo + i], by rw [R.get_eq, List.getElem?_eq_getElem this]⟩
  have hvs : s.get c = some v := by
    rw [h17, R.get_eq, R.take_toL, R.drop_toL, List.getElem?_take_of_lt h1, List.getElem?_drop, ← R.get_eq, ← hv]
    congr 1; omega
  generalize hst : lo + 258 * k + 2 + (addr + (i - c)) % 256 = st at *
  have hsto : lo + 258 * k + 2 + (addr + i) % 256 = st + c := by omega
  have hXsz : (r.splice st (s.take c)).size = r.size := R.splice_size _ _ _ (by omega)
  refine ⟨by omega, by omega, by omega, e1.set lb (.cells (r.splice st (s.take c)) E w), k, (e1.set lb (.cells (r.splice st (s.take c)) E w)).set lb (.cells ((r.splice st (s.take c)).set (st + c) v) E w), h18, ?_, ?_⟩
  · have g1 : p_mem p (e1.set lb (.cells (r.splice st (s.take c)) E w)) = some (lb, lo, num) := by
      unfold p_mem at h7 ⊢
      rw [cellE_set (Ne.symm h13)]; exact h7
    have g2 : cellE (e1.set lb (.cells (r.splice st (s.take c)) E w)) p.bb (p.bo + i) = some v := by
      rw [cellE_set (Ne.symm h14)]
      simp only [cellE, h9]; exact hv
    have g3 : (e1.set lb (.cells (r.splice st (s.take c)) E w)).get lb = some (.cells (r.splice st (s.take c)) E w) := by rw [Tr.get_set, if_pos rfl]
    have g4 : p_at (r.splice st (s.take c)) lo num (Nat.sub (addr + i) (Nat.mod (addr + i) 256)) 5000 0 = some k := (p_at_congr (fun q hq => splice_get_lt (by omega) (by omega)) h10).1
    unfold p_first
    rw [g1, g2]
    simp only [g3, g4]
    have g5 : (notRo w && Nat.blt (lo + 258 * k + 2 + Nat.mod (addr + i) 256) (r.splice st (s.take c)).size && Nat.blt num 1000000 && Nat.blt (addr + i) 4294967296 && !Nat.beq lb p.mb && !Nat.beq lb p.bb) = true := by
      simp only [Bool.and_eq_true, blt_iff, h11, h12, true_and, Bool.not_eq_true', nbeq h13, nbeq h14, and_true, hXsz]
      refine ⟨?_, ?_⟩
      · show lo + 258 * k + 2 + (addr + i) % 256 < r.size
        omega
      · omega
    rw [g5, cond_true]
    show some ((e1.set lb (.cells (r.splice st (s.take c)) E w)).set lb (.cells ((r.splice st (s.take c)).set (lo + 258 * k + 2 + (addr + i) % 256) v) E w), k) = _
    rw [hsto]
  · intro h' hs'
    have key : ∀ s', s'.toL = (r.splice st (s.take (c + 1))).toL → XSim F ρ n (e1.set lb (.cells s' E w)) h' := by
      intro s' he
      refine XSim.reset' hs' (r := (r.splice st (s.take c)).set (st + c) v) (b := lb) (r' := s') (E := E) (w := w) (by rw [Tr.get_set, if_pos rfl]) ?_ ?_
      · rw [he, splice_snoc (by omega) hvs (by omega)]
      · intro q
        rw [Tr.get_set, Tr.get_set, Tr.get_set]
        split <;> rfl
    by_cases hcc : c + 1 < cnt
    · left
      have e1' : i + 1 - (c + 1) = i - c := by omega
      have e2' : (addr + (i + 1)) % 256 = (addr + i) % 256 + 1 := by omega
      refine ⟨e1, lb, lo, num, k, c + 1, cnt, r, E, w, br, bE, bw, f, s, hcc, by omega, ?_⟩
      rw [e1', hst]
      refine ⟨h3, by omega, h5, h6, h7, h8, h9, ?_, h11, h12, h13, h14, h15, h16, h17, key _ rfl, h19, h20⟩
      rw [show addr + (i + 1) - (addr + (i + 1)) % 256 = addr + i - (addr + i) % 256 by omega]; exact h10
    · right
      have hc1 : c + 1 = cnt := by omega
      refine ⟨f, e1.set lb (.cells (r.splice st s) E w), ?_, key _ ?_, ?_⟩
      · rw [show i - c + cnt = i + 1 by omega] at h19
        rcases h19 with h | h
        · exact .inr (.inr h)
        · exact .inr (.inl h)
      · have : (s.take (c + 1)).toL = s.toL := by rw [R.take_toL, List.take_of_length_le]; rw [← R.size_eq]; omega
        rw [R.splice_toL _ _ _ (by omega), R.splice_toL _ _ _ (by rw [R.take_size _ _ (by omega)]; omega), this]
      · rw [show addr + (i + 1) = addr + (i - c) + cnt by omega, show i + 1 = i - c + cnt by omega]; exact h20
/-- A round at a page's head. -/
theorem edge_step {p : WP} {addr i : Nat} {ehf : EH} (hE : Edge' F ρ n p addr ehf i h) (hi : i < p.len) (hlen : addr + p.len ≤ 4294967296) :
    (i = 0 ∨ (addr + i) % 256 = 0) ∧ ∃ eh k e1 e2, XSim F ρ n eh h ∧ p_first p eh (addr + i) i = some (e1, k) ∧ p_gen p e1 (addr + i) = some e2 ∧ ∀ h', XSim F ρ n e2 h' → Mid F ρ n p addr ehf (i + 1) h' ∨ Edge' F ρ n p addr ehf (i + 1) h' := by
  obtain ⟨f, e, h1, h2, h3⟩ := hE
  refine ⟨by omega, ?_⟩
  have hne : Nat.beq i p.len = false := nbeq (by omega)
  cases f with
  | zero => simp only [p_run, hne, cond_false] at h3; cases h3
  | succ f =>
    simp only [p_run, hne, cond_false] at h3
    split at h3
    rotate_left
    · cases h3
    rename_i e1 k hf
    split at h3
    rotate_left
    · cases h3
    rename_i e2 hg
    split at h3
    rotate_left
    · cases h3
    rename_i e3 hr
    refine ⟨e, k, e1, e2, h2, hf, hg, fun h' hs' => ?_⟩
    rw [minN_eq] at h3 hr
    change p_run p f e3 (addr + i + min (p.len - i) (256 - (addr + i) % 256)) (i + min (p.len - i) (256 - (addr + i) % 256)) = some ehf at h3
    change p_rest p e2 (addr + i + 1) (i + 1) (min (p.len - i) (256 - (addr + i) % 256) - 1) = some e3 at hr
    have hmod : (addr + i) % 256 < 256 := Nat.mod_lt _ (by decide)
    generalize hm : min (p.len - i) (256 - (addr + i) % 256) = m at *
    have hm1 : 1 ≤ m := by omega
    unfold p_rest at hr
    cases hz : Nat.beq (m - 1) 0
    · rw [hz, cond_false] at hr
      have hz' : m - 1 ≠ 0 := fun e => by rw [e] at hz; cases hz
      split at hr
      rotate_left
      · cases hr
      rename_i lb lo num br bE bw hpm hbb
      split at hr
      rotate_left
      · cases hr
      rename_i r E w hgl
      split at hr
      rotate_left
      · cases hr
      rename_i k' hat
      obtain ⟨hb, hr⟩ := bif_some hr
      simp only [Bool.and_eq_true, blt_iff, ble_iff, Bool.not_eq_true'] at hb
      obtain ⟨⟨⟨⟨⟨hw, hn⟩, hb1⟩, hb2⟩, hs1⟩, hs2⟩ := hb
      have hne1 : lb ≠ p.mb := fun e => by rw [e, Nat.beq_refl] at hb1; cases hb1
      have hne2 : lb ≠ p.bb := fun e => by rw [e, Nat.beq_refl] at hb2; cases hb2
      cases hr
      change lo + 258 * k' + 2 + (addr + i + 1) % 256 + (m - 1) ≤ r.size at hs1
      left
      have ei : i + 1 - 0 = i + 1 := rfl
      refine ⟨e2, lb, lo, num, k', 0, m - 1, r, E, w, br, bE, bw, f, (br.drop (p.bo + (i + 1))).take (m - 1), by omega, by omega, ?_⟩
      rw [ei]
      have ea : addr + (i + 1) = addr + i + 1 := rfl
      rw [ea]
      refine ⟨by omega, by omega, by omega, by omega, hpm, hgl, hbb, hat, hw, hn, hne1, hne2, hs1, hs2, rfl, ?_, ?_, ?_⟩
      · refine XSim.reset' hs' (r := r) (b := lb) hgl ?_ fun c => Tr.get_set _ _ _ _
        have e0 : ((R.take (R.take (R.drop br (p.bo + (i + 1))) (m - 1)) 0).toL : List Value) = [] := by rw [R.take_toL, List.take_zero]
        rw [R.splice_toL _ _ _ (by rw [R.take_size _ _ (Nat.zero_le _)]; omega), e0]
        rfl
      · rw [show i + 1 + (m - 1) = i + m by omega]
        by_cases hq : p.len - i ≤ 256 - (addr + i) % 256
        · left; omega
        · right; omega
      · rw [show addr + i + 1 + (m - 1) = addr + i + m by omega, show i + 1 + (m - 1) = i + m by omega]
        exact h3
    · rw [hz, cond_true] at hr
      cases hr
      have hm' : m - 1 = 0 := Nat.eq_of_beq_eq_true hz
      have : m = 1 := by omega
      subst this
      right
      refine ⟨f, e2, ?_, hs', h3⟩
      by_cases hq : p.len - i ≤ 256 - (addr + i) % 256
      · exact .inr (.inr (by omega))
      · exact .inr (.inl (by omega))
/-- The summary of 'put' stands for the code. -/
theorem put_ok {args : List XA} {r : XV × EH × Nat} (he : s_put args eh n = some r) {args' : List Value} (hs : XSim F ρ n eh h) (ha : All2 (RA ρ) args args') : AM.Spec Tryz.prog 178 args' h (CPost F ρ r) := by
  unfold s_put at he
  split at he
  rotate_left
  · cases he
  rename_i m addr bb bo len cap
  split at he
  rotate_left
  · cases he
  rename_i mb mo hptr
  obtain ⟨hc, he⟩ := bif_some he
  simp only [Bool.and_eq_true, blt_iff, ble_iff] at hc
  obtain ⟨hl0, hlen⟩ := hc
  split at he
  rotate_left
  · cases he
  rename_i ehf hrun
  cases he
  obtain ⟨a1, a2, a3, rfl, h1, h2, h3⟩ := all2_3 ha
  unfold ptrC at hptr
  split at hptr
  rotate_left
  · cases hptr
  cases hptr
  obtain ⟨mb', t, hm, rfl⟩ := h1.toC.ptr
  obtain ⟨bb', t2, hbb, rfl⟩ := h3.toC.sl
  obtain rfl := h2.toC.self_eq rfl
  refine F178_spec _ _ _ _ _ ?_
  unfold F178 F178_0 F178_1 F178_2
  refine ⟨fun m s h' => ∃ i, s = (.pointer (some ⟨mb', mo, none⟩), .int .u32 addr, .slice (some ⟨bb', bo, none⟩) len cap, .int .i64 (i : Nat)) ∧ i ≤ len ∧ m = len - i ∧ (Mid F ρ n ⟨mb, mo, bb, bo, len⟩ addr ehf i h' ∨ Edge' F ρ n ⟨mb, mo, bb, bo, len⟩ addr ehf i h'),
    ⟨len, 0, rfl, Nat.zero_le _, rfl, .inr ⟨_, eh, .inl rfl, hs, hrun⟩⟩, ?_⟩
  rintro m s h' ⟨i, rfl, hi, rfl, hM⟩
  by_cases hlt : i < len
  · rcases hM with hM | hM
    · obtain ⟨q1, q2, q3, eh', k, e1, g1, g2, g3⟩ := mid_step hM hlen
      refine put_body (p := ⟨mb, mo, bb, bo, len⟩) (e2 := e1) g1 hm hbb hlt hlen g2 (by rw [if_neg (by rintro (h | h) <;> contradiction)]) fun h'' hs'' => ?_
      exact ⟨len - (i + 1), by omega, i + 1, rfl, hlt, rfl, g3 h'' hs''⟩
    · obtain ⟨q1, eh', k, e1, e2, g1, g2, g3, g4⟩ := edge_step hM hlt hlen
      refine put_body (p := ⟨mb, mo, bb, bo, len⟩) g1 hm hbb hlt hlen g2 (by rw [if_pos q1]; exact g3) fun h'' hs'' => ?_
      exact ⟨len - (i + 1), by omega, i + 1, rfl, hlt, rfl, g4 h'' hs''⟩
  · have hil : i = len := by omega
    subst hil
    rcases hM with hM | hM
    · obtain ⟨q1, _⟩ := mid_step hM hlen
      exact absurd q1 (Nat.lt_irrefl _)
    · obtain ⟨f, e, k1, k2, k3⟩ := hM
      unfold F178_3
      have d1 : decide ((i : Int) < (i : Int)) = false := by simp
      simp only [len_sl, bin_lss, d1, if_false']
      have : e = ehf := by
        cases f <;> simp only [p_run, Nat.beq_refl, cond_true] at k3 <;> cases k3 <;> rfl
      subst this
      exact ⟨ρ, Ren.le_refl ρ, k2, .tup .nil⟩
end
end Go.Proofs.YtjdhldfeflmneaaGreat
