/-
  The plain law of drop.Make: what it makes of a list that may be may be, is no longer, and leaves nothing that nobody reads.
-/
import Derived.Test.YtpdleknbcgpemaaU6
set_option linter.unusedSimpArgs false
set_option linter.unusedVariables false
namespace Go.Proofs.Ytpdleknbcgpemaa

def dr : List Nd → (Int → Bool) × List Nd
  | [] => (fun _ => false, [])
  | n :: r => dropStep (dr r) n
theorem dropRun_dr : ∀ l : List Nd, dropRun l 0 = dr l := by
  intro l
  unfold dropRun
  rw [List.drop_zero, List.foldl_reverse]
  induction l with
  | nil => rfl
  | cons n r ih => rw [List.foldr_cons, ih]; rfl
def kept (l : List Nd) : List Nd := (dr l).2.reverse
def want (l : List Nd) : Int → Bool := (dr l).1
def gone (n : Nd) (r : List Nd) : Bool := idleB n.op && !want r n.to
theorem kept_cons {n : Nd} {r : List Nd} : kept (n :: r) = if gone n r = true then kept r else n :: kept r := by
  unfold kept gone want
  rw [dr, dropStep]
  split <;> simp
theorem want_cons {n : Nd} {r : List Nd} : want (n :: r) = if gone n r = true then want r else markR (if writesB n.op = true then put (want r) n.to false else want r) (rl n) := by
  unfold gone want
  rw [dr, dropStep]
  split <;> rfl
theorem markR_eq {ts : List Int} : ∀ {w : Int → Bool} {t : Int}, markR w ts t = (ts.any (fun x => decide (x = t)) || w t) := by
  induction ts with
  | nil => intro w t; rfl
  | cons a ts ih =>
    intro w t
    show markR (put w a true) ts t = _
    rw [ih, List.any_cons]
    unfold put
    by_cases h : t = a
    · subst h; simp
    · have : ¬ a = t := fun e => h e.symm
      simp [h, this]
theorem want_read : ∀ (l : List Nd) (t : Int), want l t = readLater (kept l) t
  | [], t => rfl
  | n :: r, t => by
    rw [want_cons, kept_cons]
    have ih := want_read r t
    split
    · exact ih
    · rw [readLater, markR_eq]
      by_cases h1 : (rl n).any (fun x => decide (x = t)) = true
      · rw [h1]; simp
      · have h1' : (rl n).any (fun x => decide (x = t)) = false := Bool.eq_false_iff.2 h1
        simp only [h1', Bool.false_eq_true, if_false, Bool.false_or]
        by_cases h2 : writesB n.op = true
        · rw [if_pos h2]
          by_cases h3 : n.to = t
          · rw [if_pos ⟨h2, h3⟩]; simp [put, h3]
          · rw [if_neg (fun h => h3 h.2), ← ih]
            have : ¬ t = n.to := fun e => h3 e.symm
            simp [put, this]
        · rw [if_neg h2, if_neg (fun h => h2 h.1), ← ih]
theorem must_idle {op : Int} (h : mustRead op = true) : idleB op = true := by
  simp only [mustRead, idleB, Bool.or_eq_true, decide_eq_true_eq] at *
  omega
theorem kept_clean : ∀ l : List Nd, cleanB (kept l) = true
  | [] => rfl
  | n :: r => by
    have ih := kept_clean r
    rw [kept_cons]
    split
    · exact ih
    · rename_i hg
      rw [cleanB, ih, Bool.and_true, ← want_read]
      cases hm : mustRead n.op
      · rfl
      · have := must_idle hm
        simp only [gone, this, Bool.true_and, Bool.not_eq_true'] at hg
        simpa using hg
theorem kept_len : ∀ l : List Nd, (kept l).length ≤ l.length
  | [] => Nat.le_refl _
  | n :: r => by
    have ih := kept_len r
    rw [kept_cons]
    split
    · simp only [List.length_cons]; omega
    · simp only [List.length_cons]; omega
theorem tags_idle {op : Int} (h : tagsB op = true) : idleB op = true ∧ writesB op = false := by
  simp only [tagsB, idleB, writesB, Bool.or_eq_true, decide_eq_true_eq, Bool.or_eq_false_iff, decide_eq_false_iff_not] at *
  omega
theorem kept_run : ∀ (l : List Nd) (th th' : Int → Bool), goodRun l th = true → (∀ t, th t = true → want l t = true → th' t = true) → goodRun (kept l) th' = true
  | [], _, _, _, _ => rfl
  | n :: r, th, th', hg, hc => by
    simp only [goodRun, Bool.and_eq_true, Bool.not_eq_true', Bool.and_eq_false_iff] at hg
    obtain ⟨⟨⟨hf, ht⟩, hr⟩, hg⟩ := hg
    rw [kept_cons]
    rw [want_cons] at hc
    split
    · rename_i hgone
      rw [if_pos hgone] at hc
      refine kept_run r _ th' hg fun t h1 h2 => ?_
      by_cases htt : writesB n.op = true ∧ t = n.to
      · exfalso
        rw [htt.2] at h2
        simp only [gone, Bool.and_eq_true, Bool.not_eq_true'] at hgone
        rw [hgone.2] at h2; cases h2
      · refine hc t ?_ h2
        split at h1
        · rename_i hw
          have : ¬ t = n.to := fun e => htt ⟨hw, e⟩
          simpa [put, this] using h1
        · exact h1
    · rename_i hgone
      rw [if_neg hgone] at hc
      simp only [goodRun, Bool.and_eq_true, Bool.not_eq_true', Bool.and_eq_false_iff]
      refine ⟨⟨⟨hf, ?_⟩, ?_⟩, ?_⟩
      · cases htg : tagsB n.op
        · exact .inl rfl
        · right
          have hti := tags_idle htg
          simp only [gone, hti.1, Bool.true_and, Bool.not_eq_true'] at hgone
          rw [htg] at ht
          have hth : th n.to = true := by simpa using ht
          have hw : want r n.to = true := by simpa using hgone
          have := hc n.to hth (by rw [markR_eq, hti.2]; simp [hw])
          simp [this]
      · rw [List.any_eq_false] at hr ⊢
        intro t htr
        have h1 := hr t htr
        have hth : th t = true := by simpa using h1
        have := hc t hth (by rw [markR_eq]; rw [Bool.or_eq_true]; left; exact List.any_eq_true.2 ⟨t, htr, by simp⟩)
        simp [this]
      · refine kept_run r _ _ hg fun t h1 h2 => ?_
        by_cases htt : writesB n.op = true ∧ t = n.to
        · rw [if_pos htt.1]; simp [put, htt.2]
        · have h3 : th t = true := by
            split at h1
            · rename_i hw
              have : ¬ t = n.to := fun e => htt ⟨hw, e⟩
              simpa [put, this] using h1
            · exact h1
          have h4 := hc t h3 (by
            rw [markR_eq, Bool.or_eq_true]; right
            split
            · rename_i hw
              have : ¬ t = n.to := fun e => htt ⟨hw, e⟩
              simpa [put, this] using h2
            · exact h2)
          split
          · rename_i hw
            have : ¬ t = n.to := fun e => htt ⟨hw, e⟩
            simpa [put, this] using h4
          · exact h4
theorem kept_last : ∀ (l : List Nd), l ≠ [] → idleB (lastOp l) = false → kept l ≠ [] ∧ lastOp (kept l) = lastOp l
  | [n], _, hi => by
    have : gone n [] = false := by simp only [gone]; simp only [lastOp] at hi; rw [hi]; rfl
    rw [kept_cons, if_neg (by rw [this]; simp)]
    exact ⟨by simp, rfl⟩
  | n :: m :: r, _, hi => by
    have hi' : idleB (lastOp (m :: r)) = false := hi
    obtain ⟨h1, h2⟩ := kept_last (m :: r) (by simp) hi'
    have e : lastOp (n :: m :: r) = lastOp (m :: r) := rfl
    rw [kept_cons, e, ← h2]
    split
    · exact ⟨h1, rfl⟩
    · refine ⟨by simp, ?_⟩
      cases hk : kept (m :: r) with
      | nil => exact absurd hk h1
      | cons a b => rfl
theorem good_kept {l : List Nd} (hg : goodB l = true) : goodB (kept l) = true := by
  cases l with
  | nil => cases hg
  | cons n r =>
    simp only [goodB, Bool.and_eq_true, decide_eq_true_eq] at hg
    obtain ⟨⟨⟨h1, h2⟩, h3⟩, h4, h5⟩ := hg
    have hgn : gone n r = false := by simp [gone, idleB, h2]
    have hk : kept (n :: r) = n :: kept r := by rw [kept_cons, if_neg (by rw [hgn]; simp)]
    have hl := kept_len (n :: r)
    have hrun := kept_run (n :: r) (fun _ => false) (fun _ => false) h3 (fun t h _ => h)
    have hlast := (kept_last (n :: r) (by simp) (by
      simp only [idleB, Bool.or_eq_false_iff, decide_eq_false_iff_not]; omega)).2
    rw [hk] at hl hrun hlast ⊢
    simp only [goodB, Bool.and_eq_true, decide_eq_true_eq]
    rw [hlast]
    exact ⟨⟨⟨by omega, h2⟩, hrun⟩, h4, h5⟩
theorem makeB_good {l : List Nd} (hg : goodB l = true) : makeB l = kept l := by rw [makeB, if_pos hg, dropRun_dr]; rfl
theorem makeB_law {l : List Nd} (hg : goodB l = true) : goodB (makeB l) = true ∧ (makeB l).length ≤ l.length ∧ cleanB (makeB l) = true := by
  rw [makeB_good hg]
  exact ⟨good_kept hg, kept_len l, kept_clean l⟩
end Go.Proofs.Ytpdleknbcgpemaa
