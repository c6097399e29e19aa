/-
  The sort of numbers over the abstract memory: partitions; the whole (fewer than 50 numbers).
-/
import Derived.Test.YtcohcmlidmaaoaaGreatSO4
set_option linter.unusedVariables false
set_option linter.unusedSimpArgs false
set_option maxRecDepth 100000
namespace Go.Proofs.YtcohcmlidmaaoaaGreat
open Go.Proofs.YtcohcmlidmaaoaaGreat.AM
open Go.Sort (swp ltInt)
section
variable {h0 : H} {b c L : Nat} {E : TypeId} {m : AM.Own} {d : Array Int}
theorem partial_eq {x y : Nat} (hb : y - x < 50) : Sort.partialInsertionSort ltInt d x y = (d, decide (Sort.scanSorted ltInt d y (x + 1) = y)) := by
  unfold Sort.partialInsertionSort
  rw [Sort.partialIns]
  simp only [hb, if_true]
  split <;> simp [*]
theorem partial_ok (hL : d.size = L) (hb : L < 50) {x y : Nat} (hxy : x < y) (hy : y ≤ L) {Q : Value → H → Prop}
    (hq : Q (.bool (Sort.partialInsertionSort ltInt d x y).2) (AB h0 b E m d)) : AM.Spec Tryz.prog 178 [SL b L c, .int .i64 (x : Nat), .int .i64 (y : Nat)] (AB h0 b E m d) Q := by
  rw [partial_eq (by omega)] at hq
  refine F178_spec _ _ _ _ _ ?_
  simp (disch := omega) only [F178, F178_0, F178_1, F178_2, F178_3, F178_4, bin_add, wrap64]
  refine ⟨fun n s h => n = 0 ∧ s = (SL b L c, .int .i64 (x : Nat), .int .i64 (y : Nat), .int .i64 ((x : Int) + 1), .int .i64 0) ∧ h = AB h0 b E m d, ⟨0, rfl, rfl, rfl⟩, ?_⟩
  rintro n s h ⟨rfl, rfl, rfl⟩
  simp only [F178_5, bin_lss, if_bool]
  rw [if_pos (by simp)]
  simp only [F178_6, F178_7, F178_8, F178_9, F178_10]
  refine ⟨fun n s h => ∃ i : Nat, n = y - i ∧ x + 1 ≤ i ∧ i ≤ y ∧ s = (SL b L c, .int .i64 (x : Nat), .int .i64 (y : Nat), .int .i64 (i : Nat), .int .i64 0) ∧ h = AB h0 b E m d ∧ Sort.scanSorted ltInt d y i = Sort.scanSorted ltInt d y (x + 1), ⟨_, x + 1, rfl, by omega, by omega, by simp, rfl, rfl⟩, ?_⟩
  rintro n s h ⟨i, rfl, hi1, hi2, rfl, rfl, he⟩
  rw [Sort.scanSorted] at he
  simp only [F178_11, F178_12, F178_13, F178_14, F178_15, bin_lss]
  have done : Sort.scanSorted ltInt d y (x + 1) = i → F178_16 (SL b L c) (.int .i64 (x : Nat)) (.int .i64 (y : Nat)) (.int .i64 (i : Nat)) (.int .i64 0) (AB h0 b E m d)
      (fun y0 y1 y2 y7 y8 h => F178_50 y0 y1 y2 y7 y8 h (fun y0 y1 y2 y7 y8 h => ∃ m_1, m_1 < 0 ∧ m_1 = 0 ∧ (y0, y1, y2, y7, y8) = (SL b L c, Value.int .i64 (x : Nat), Value.int .i64 (y : Nat), Value.int .i64 ((x : Int) + 1), Value.int .i64 0) ∧ h = AB h0 b E m d) (fun v h => Q v h) (fun h => Q (.bool false) h))
      (fun v h => Q v h) (fun y0 y1 y2 y7 y8 h => F178_50 y0 y1 y2 y7 y8 h (fun y0 y1 y2 y7 y8 h => ∃ m_1, m_1 < 0 ∧ m_1 = 0 ∧ (y0, y1, y2, y7, y8) = (SL b L c, Value.int .i64 (x : Nat), Value.int .i64 (y : Nat), Value.int .i64 ((x : Int) + 1), Value.int .i64 0) ∧ h = AB h0 b E m d) (fun v h => Q v h) (fun h => Q (.bool false) h)) (fun h => Q (.bool false) h) := by
    intro hs
    rw [hs] at hq
    simp only at hq
    simp (disch := omega) only [F178_16, bin_eql, if_bool, bin_sub, wrap64, bin_lss]
    by_cases hiy : i = y
    · rw [if_pos (by simp [hiy])]
      simpa [hiy] using hq
    · rw [if_neg (by simp <;> omega), if_pos (by simp <;> omega)]
      simpa [hiy] using hq
  by_cases hlt : i < y
  · rw [show decide ((i : Int) < (y : Int)) = true by simp <;> omega]
    simp (disch := omega) only [guard_tt, bin_sub, wrap64, ix, ld, tn0, tn1, dLess, un_not, pick_true, if_bool]
    by_cases hl : d[i]! < d[i - 1]!
    · rw [if_neg (by simp [hl])]
      rw [if_neg (by simp [ltInt, hl])] at he
      exact done he.symm
    · rw [if_pos (by simp [hl])]
      rw [if_pos (by simp [ltInt, hl, hlt])] at he
      simp (disch := omega) only [bin_add, wrap64]
      exact ⟨_, by omega, i + 1, rfl, by omega, by omega, by simp, trivial, he⟩
  · rw [show decide ((i : Int) < (y : Int)) = false by simp <;> omega]
    simp only [guard_ft, pick_false, if_false']
    rw [if_neg (by simp [hlt])] at he
    exact done he.symm
theorem scanUp_bd {p : Int → Bool} {j : Nat} : ∀ (n i : Nat), j + 1 - i ≤ n → i ≤ Sort.scanUp p d j i ∧ (Sort.scanUp p d j i ≤ j + 1 ∨ Sort.scanUp p d j i = i) := by
  intro n
  induction n with
  | zero => intro i hn; rw [Sort.scanUp, if_neg (by simp <;> omega)]; omega
  | succ n ih =>
    intro i hn
    rw [Sort.scanUp]
    split
    · rename_i hc
      simp only [Bool.and_eq_true, decide_eq_true_eq] at hc
      have := ih (i + 1) (by omega)
      omega
    · omega
theorem scanDown_le {p : Int → Bool} {i : Nat} : ∀ (j : Nat), Sort.scanDown p d i j ≤ j
  | 0 => Nat.le_refl _
  | j + 1 => by
    rw [Sort.scanDown]
    split
    · have := scanDown_le (p := p) (i := i) j; omega
    · omega
theorem scanDown_ge {p : Int → Bool} {i : Nat} (hi : 1 ≤ i) : ∀ (j : Nat), (i ≤ j + 1 → i ≤ Sort.scanDown p d i j + 1) ∧ (j < i → Sort.scanDown p d i j = j)
  | 0 => ⟨fun h => by simpa [Sort.scanDown] using h, fun _ => rfl⟩
  | j + 1 => by
    rw [Sort.scanDown]
    have ih := scanDown_ge (p := p) hi j
    split
    · rename_i hc
      simp only [Bool.and_eq_true, decide_eq_true_eq] at hc
      refine ⟨fun _ => ih.1 (by omega), fun h => by omega⟩
    · exact ⟨fun h => h, fun h => rfl⟩
theorem up346 (hL : d.size = L) (hb : L < 1000000) {a i j : Nat} (ha : a < L) (hj : j < L) {Kn Ke : Value → Value → Value → Value → H → Prop} {Kr : Value → Value → H → Prop}
    (hk : Ke (SL b L c) (.int .i64 (a : Nat)) (.int .i64 (Sort.scanUp (fun x => ltInt x d[a]!) d j i : Nat)) (.int .i64 (j : Nat)) (AB h0 b E m d)) :
    F181_6 (SL b L c) (.int .i64 (a : Nat)) (.int .i64 (i : Nat)) (.int .i64 (j : Nat)) (AB h0 b E m d) Kn Kr Ke := by
  unfold F181_6
  refine ⟨fun n s h => ∃ i' : Nat, n = j + 1 - i' ∧ s = (SL b L c, .int .i64 (a : Nat), .int .i64 (i' : Nat), .int .i64 (j : Nat)) ∧ h = AB h0 b E m d ∧ Sort.scanUp (fun x => ltInt x d[a]!) d j i' = Sort.scanUp (fun x => ltInt x d[a]!) d j i, ⟨_, i, rfl, rfl, rfl, rfl⟩, ?_⟩
  rintro n s h ⟨i', rfl, rfl, rfl, he⟩
  rw [Sort.scanUp] at he
  simp only [F181_7, F181_8, F181_9, F181_10, F181_11, bin_leq]
  by_cases hlt : i' ≤ j
  · rw [show decide ((i' : Int) ≤ (j : Int)) = true by simp <;> omega]
    simp (disch := omega) only [guard_tt, ix, ld, tn0, dLess, pick_true, if_bool]
    by_cases hl : d[i']! < d[a]!
    · rw [if_pos (by simp [hl])]
      rw [if_pos (by simp [ltInt, hl, hlt])] at he
      simp (disch := omega) only [bin_add, wrap64]
      exact ⟨_, by omega, i' + 1, rfl, by simp, trivial, he⟩
    · rw [if_neg (by simp [hl])]
      rw [if_neg (by simp [ltInt, hl])] at he
      rw [← he] at hk; exact hk
  · rw [show decide ((i' : Int) ≤ (j : Int)) = false by simp <;> omega]
    simp only [guard_ft, pick_false, if_false']
    rw [if_neg (by simp [hlt])] at he
    rw [← he] at hk; exact hk
theorem down346 (hL : d.size = L) (hb : L < 1000000) {a i j : Nat} (ha : a < L) (hj : j < L) (hi : 1 ≤ i) {Kn Ke : Value → Value → Value → Value → H → Prop} {Kr : Value → Value → H → Prop}
    (hk : Ke (SL b L c) (.int .i64 (a : Nat)) (.int .i64 (i : Nat)) (.int .i64 (Sort.scanDown (fun x => !ltInt x d[a]!) d i j : Nat)) (AB h0 b E m d)) :
    F181_14 (SL b L c) (.int .i64 (a : Nat)) (.int .i64 (i : Nat)) (.int .i64 (j : Nat)) (AB h0 b E m d) Kn Kr Ke := by
  unfold F181_14
  refine ⟨fun n s h => ∃ j' : Nat, n = j' ∧ j' ≤ j ∧ s = (SL b L c, .int .i64 (a : Nat), .int .i64 (i : Nat), .int .i64 (j' : Nat)) ∧ h = AB h0 b E m d ∧ Sort.scanDown (fun x => !ltInt x d[a]!) d i j' = Sort.scanDown (fun x => !ltInt x d[a]!) d i j, ⟨_, j, rfl, Nat.le_refl _, rfl, rfl, rfl⟩, ?_⟩
  rintro j' s h ⟨_, rfl, hj', rfl, rfl, he⟩
  simp only [F181_15, F181_16, F181_17, F181_18, F181_19, bin_leq]
  by_cases hlt : i ≤ j'
  · obtain ⟨k, rfl⟩ : ∃ k, j' = k + 1 := ⟨j' - 1, by omega⟩
    rw [Sort.scanDown] at he
    rw [show decide ((i : Int) ≤ ((k + 1 : Nat) : Int)) = true by simp <;> omega]
    simp (disch := omega) only [guard_tt, ix, ld, tn0, dLess, un_not, pick_true, if_bool]
    by_cases hl : d[k + 1]! < d[a]!
    · rw [if_neg (by simp [hl])]
      rw [if_neg (by simp [ltInt, hl])] at he
      rw [← he] at hk; exact hk
    · rw [if_pos (by simp [hl])]
      rw [if_pos (by simp [ltInt, hl, hlt])] at he
      simp (disch := omega) only [bin_sub, wrap64]
      exact ⟨_, by omega, k, rfl, by omega, by simp, trivial, he⟩
  · rw [show decide ((i : Int) ≤ (j' : Int)) = false by simp <;> omega]
    simp only [guard_ft, pick_false, if_false']
    have he2 : Sort.scanDown (fun x => !ltInt x d[a]!) d i j' = j' := by
      cases j' with
      | zero => rfl
      | succ k => rw [Sort.scanDown, if_neg (by simp <;> omega)]
    rw [he2] at he
    rw [← he] at hk; exact hk
theorem up345 (hL : d.size = L) (hb : L < 1000000) {a i j : Nat} (ha : a < L) (hj : j < L) {Kn Ke Ke1 : Value → Value → Value → Value → H → Prop} {Ke0 : Value → H → Prop} {Kr : Value → H → Prop}
    (hk : Ke (SL b L c) (.int .i64 (a : Nat)) (.int .i64 (Sort.scanUp (fun x => !ltInt d[a]! x) d j i : Nat)) (.int .i64 (j : Nat)) (AB h0 b E m d)) :
    F180_10 (SL b L c) (.int .i64 (a : Nat)) (.int .i64 (i : Nat)) (.int .i64 (j : Nat)) (AB h0 b E m d) Kn Kr Ke Ke1 Ke0 := by
  unfold F180_10
  refine ⟨fun n s h => ∃ i' : Nat, n = j + 1 - i' ∧ s = (SL b L c, .int .i64 (a : Nat), .int .i64 (i' : Nat), .int .i64 (j : Nat)) ∧ h = AB h0 b E m d ∧ Sort.scanUp (fun x => !ltInt d[a]! x) d j i' = Sort.scanUp (fun x => !ltInt d[a]! x) d j i, ⟨_, i, rfl, rfl, rfl, rfl⟩, ?_⟩
  rintro n s h ⟨i', rfl, rfl, rfl, he⟩
  rw [Sort.scanUp] at he
  simp only [F180_11, F180_12, F180_13, F180_14, F180_15, bin_leq]
  by_cases hlt : i' ≤ j
  · rw [show decide ((i' : Int) ≤ (j : Int)) = true by simp <;> omega]
    simp (disch := omega) only [guard_tt, ix, ld, tn0, dLess, un_not, pick_true, if_bool]
    by_cases hl : d[a]! < d[i']!
    · rw [if_neg (by simp [hl])]
      rw [if_neg (by simp [ltInt, hl])] at he
      rw [← he] at hk; exact hk
    · rw [if_pos (by simp [hl])]
      rw [if_pos (by simp [ltInt, hl, hlt])] at he
      simp (disch := omega) only [bin_add, wrap64]
      exact ⟨_, by omega, i' + 1, rfl, by simp, trivial, he⟩
  · rw [show decide ((i' : Int) ≤ (j : Int)) = false by simp <;> omega]
    simp only [guard_ft, pick_false, if_false']
    rw [if_neg (by simp [hlt])] at he
    rw [← he] at hk; exact hk
theorem down345 (hL : d.size = L) (hb : L < 1000000) {a i j : Nat} (ha : a < L) (hj : j < L) (hi : 1 ≤ i) {Kn Ke Ke1 : Value → Value → Value → Value → H → Prop} {Ke0 : Value → H → Prop} {Kr : Value → H → Prop}
    (hk : Ke (SL b L c) (.int .i64 (a : Nat)) (.int .i64 (i : Nat)) (.int .i64 (Sort.scanDown (fun x => ltInt d[a]! x) d i j : Nat)) (AB h0 b E m d)) :
    F180_18 (SL b L c) (.int .i64 (a : Nat)) (.int .i64 (i : Nat)) (.int .i64 (j : Nat)) (AB h0 b E m d) Kn Kr Ke Ke1 Ke0 := by
  unfold F180_18
  refine ⟨fun n s h => ∃ j' : Nat, n = j' ∧ j' ≤ j ∧ s = (SL b L c, .int .i64 (a : Nat), .int .i64 (i : Nat), .int .i64 (j' : Nat)) ∧ h = AB h0 b E m d ∧ Sort.scanDown (fun x => ltInt d[a]! x) d i j' = Sort.scanDown (fun x => ltInt d[a]! x) d i j, ⟨_, j, rfl, Nat.le_refl _, rfl, rfl, rfl⟩, ?_⟩
  rintro j' s h ⟨_, rfl, hj', rfl, rfl, he⟩
  simp only [F180_19, F180_20, F180_21, F180_22, F180_23, bin_leq]
  by_cases hlt : i ≤ j'
  · obtain ⟨k, rfl⟩ : ∃ k, j' = k + 1 := ⟨j' - 1, by omega⟩
    rw [Sort.scanDown] at he
    rw [show decide ((i : Int) ≤ ((k + 1 : Nat) : Int)) = true by simp <;> omega]
    simp (disch := omega) only [guard_tt, ix, ld, tn0, dLess, pick_true, if_bool]
    by_cases hl : d[a]! < d[k + 1]!
    · rw [if_pos (by simp [hl])]
      rw [if_pos (by simp [ltInt, hl, hlt])] at he
      simp (disch := omega) only [bin_sub, wrap64]
      exact ⟨_, by omega, k, rfl, by omega, by simp, trivial, he⟩
    · rw [if_neg (by simp [hl])]
      rw [if_neg (by simp [ltInt, hl])] at he
      rw [← he] at hk; exact hk
  · rw [show decide ((i : Int) ≤ (j' : Int)) = false by simp <;> omega]
    simp only [guard_ft, pick_false, if_false']
    have he2 : Sort.scanDown (fun x => ltInt d[a]! x) d i j' = j' := by
      cases j' with
      | zero => rfl
      | succ k => rw [Sort.scanDown, if_neg (by simp <;> omega)]
    rw [he2] at he
    rw [← he] at hk; exact hk
theorem e36 {x0 x1 x10 x11 : Value} {h : H} {Kn Ke6 Ke5 : Value → Value → Value → Value → H → Prop} {Kr : Value → Value → H → Prop} {Ke4 : Value → Value → Value → H → Prop} : F181_36 x0 x1 x10 x11 h Kn Kr Ke6 Ke5 Ke4 = F181_6 x0 x1 x10 x11 h Kn Kr Ke6 := rfl
theorem e44 {x0 x1 x10 x11 : Value} {h : H} {Kn Ke6 Ke5 : Value → Value → Value → Value → H → Prop} {Kr : Value → Value → H → Prop} {Ke4 : Value → Value → Value → H → Prop} : F181_44 x0 x1 x10 x11 h Kn Kr Ke6 Ke5 Ke4 = F181_14 x0 x1 x10 x11 h Kn Kr Ke6 := rfl
theorem part_loop (hm : m ≠ .ro) (hL : d.size = L) (hb : L < 1000000) {a i j : Nat} (ha : a < L) (hi : 1 ≤ i) (hj : j < L) (hij : i ≤ j + 2) {Ke4 : Value → Value → Value → H → Prop} {Kn : Value → Value → Value → H → Prop} {Kr : Value → Value → H → Prop}
    (hk : (Sort.partLoop ltInt a i j d).2.size = L → (Sort.partLoop ltInt a i j d).1 ≤ j → i ≤ (Sort.partLoop ltInt a i j d).1 + 2 → Ke4 (SL b L c) (.int .i64 (a : Nat)) (.int .i64 ((Sort.partLoop ltInt a i j d).1 : Nat)) (AB h0 b E m (Sort.partLoop ltInt a i j d).2)) :
    F181_32 (SL b L c) (.int .i64 (a : Nat)) (.int .i64 (i : Nat)) (.int .i64 (j : Nat)) (AB h0 b E m d) Kn Kr Ke4 := by
  unfold F181_32
  refine ⟨fun n s h => ∃ (i' j' : Nat) (d' : Array Int), n = j' + 1 - i' ∧ i ≤ i' ∧ i' ≤ j' + 2 ∧ j' ≤ j ∧ s = (SL b L c, .int .i64 (a : Nat), .int .i64 (i' : Nat), .int .i64 (j' : Nat)) ∧ h = AB h0 b E m d' ∧ d'.size = L ∧ Sort.partLoop ltInt a i' j' d' = Sort.partLoop ltInt a i j d, ⟨_, i, j, d, rfl, Nat.le_refl _, hij, Nat.le_refl _, rfl, rfl, hL, rfl⟩, ?_⟩
  rintro n s h ⟨i', j', d', rfl, hi', hij', hj', rfl, rfl, hd', he⟩
  simp only [F181_33, F181_34, F181_35, e36]
  refine up346 hd' hb ha (by omega) ?_
  simp only [F181_42, F181_43, e44]
  rw [Sort.partLoop] at he
  try simp only at he
  have hu := scanUp_bd (d := d') (p := fun x => ltInt x d'[a]!) (j := j') _ i' (Nat.le_refl _)
  generalize Sort.scanUp (fun x => ltInt x d'[a]!) d' j' i' = i2 at *
  refine down346 hd' hb ha (by omega) (by omega) ?_
  have hd1 := scanDown_le (d := d') (p := fun x => !ltInt x d'[a]!) (i := i2) j'
  have hd2 := scanDown_ge (d := d') (p := fun x => !ltInt x d'[a]!) (i := i2) (by omega) j'
  generalize Sort.scanDown (fun x => !ltInt x d'[a]!) d' i2 j' = j2 at *
  simp only [F181_50, bin_gtr, if_bool]
  by_cases hgt : i2 > j2
  · rw [if_pos (by simp <;> omega)]
    rw [if_pos hgt] at he
    rw [← he] at hk
    exact hk hd' (by simp only; omega) (by simp only; omega)
  · rw [if_neg (by simp <;> omega)]
    rw [if_neg hgt, dif_pos (by omega)] at he
    have h3 : (d'.setIfInBounds i2 d'[j2]!).size = L := by simpa using hd'
    have e5 : ((j2 : Int) - 1) = ((j2 - 1 : Nat) : Int) := by omega
    simp (disch := first | assumption | omega) only [F181_51, F181_52, F181_53, bin_add, bin_sub, wrap64, ix, ld, st, tn0, e5]
    exact ⟨_, by omega, i2 + 1, j2 - 1, swp d' i2 j2, rfl, by omega, by omega, by omega, by simp, rfl, by rw [swp_size]; exact hd', he⟩
theorem partition_ok (hm : m ≠ .ro) (hL : d.size = L) (hb : L < 1000000) {x y p : Nat} (hxy : x + 1 < y) (hy : y ≤ L) (hp1 : x ≤ p) (hp2 : p < y) {Q : Value → H → Prop}
    (hq : (Sort.partition ltInt d x y p).2.2.size = L → x ≤ (Sort.partition ltInt d x y p).1 → (Sort.partition ltInt d x y p).1 < y → Q (.tuple #[.int .i64 (Sort.partition ltInt d x y p).1, .bool (Sort.partition ltInt d x y p).2.1]) (AB h0 b E m (Sort.partition ltInt d x y p).2.2)) :
    AM.Spec Tryz.prog 181 [SL b L c, .int .i64 (x : Nat), .int .i64 (y : Nat), .int .i64 (p : Nat)] (AB h0 b E m d) Q := by
  refine F181_spec _ _ _ _ _ _ ?_
  have h3 : (d.setIfInBounds x d[p]!).size = L := by simpa using hL
  have e1 : ((x : Int) + 1) = ((x + 1 : Nat) : Int) := by omega
  have e2 : ((y : Int) - 1) = ((y - 1 : Nat) : Int) := by omega
  simp (disch := first | assumption | omega) only [F181, F181_0, F181_1, F181_2, F181_3, F181_4, F181_5, ix, ld, st, tn0, bin_add, bin_sub, wrap64, e1, e2]
  have hd1 : (swp d x p).size = L := by rw [swp_size]; exact hL
  unfold Sort.partition at hq
  simp only at hq
  show F181_6 _ _ _ _ (AB h0 b E m (swp d x p)) _ _ _
  generalize swp d x p = d1 at *
  refine up346 hd1 hb (by omega) (by omega) ?_
  have hu := scanUp_bd (d := d1) (p := fun z => ltInt z d1[x]!) (j := y - 1) _ (x + 1) (Nat.le_refl _)
  generalize Sort.scanUp (fun z => ltInt z d1[x]!) d1 (y - 1) (x + 1) = i at *
  simp only [F181_12, F181_13]
  refine down346 hd1 hb (by omega) (by omega) (by omega) ?_
  have hd3 := scanDown_le (d := d1) (p := fun z => !ltInt z d1[x]!) (i := i) (y - 1)
  have hd4 := scanDown_ge (d := d1) (p := fun z => !ltInt z d1[x]!) (i := i) (by omega) (y - 1)
  generalize Sort.scanDown (fun z => !ltInt z d1[x]!) d1 i (y - 1) = j at *
  simp only [F181_20, F181_21, F181_22, bin_gtr, if_bool]
  by_cases hgt : i > j
  · rw [if_pos (by simp <;> omega)]
    rw [if_pos hgt] at hq
    simp only at hq
    have h5 : (d1.setIfInBounds j d1[x]!).size = L := by simpa using hd1
    simp (disch := first | assumption | omega) only [F181_23, F181_24, F181_25, ix, ld, st, tn0, List.all_cons, List.all_nil, bx_int, bx_bool, Bool.and_true, cond_true]
    exact hq (by rw [swp_size]; exact hd1) (by omega) (by omega)
  · rw [if_neg (by simp <;> omega)]
    rw [if_neg hgt] at hq
    have h5 : (d1.setIfInBounds i d1[j]!).size = L := by simpa using hd1
    have e3 : ((i : Int) + 1) = ((i + 1 : Nat) : Int) := by omega
    have e4 : ((j : Int) - 1) = ((j - 1 : Nat) : Int) := by omega
    simp (disch := first | assumption | omega) only [F181_26, F181_27, F181_28, F181_29, F181_30, F181_31, ix, ld, st, tn0, bin_add, bin_sub, wrap64, e3, e4]
    have hd5 : (swp d1 i j).size = L := by rw [swp_size]; exact hd1
    show F181_32 _ _ _ _ (AB h0 b E m (swp d1 i j)) _ _ _
    refine part_loop hm hd5 hb (by omega) (by omega) (by omega) (by omega) fun k1 k2 k3 => ?_
    generalize Sort.partLoop ltInt x (i + 1) (j - 1) (swp d1 i j) = r at *
    have h6 : (r.2.setIfInBounds r.1 r.2[x]!).size = L := by simpa using k1
    simp (disch := first | assumption | omega) only [F181_54, F181_55, F181_56, ix, ld, st, tn0, List.all_cons, List.all_nil, bx_int, bx_bool, Bool.and_true, cond_true]
    exact hq (by simp only [swp_size]; exact k1) (by simp only; omega) (by simp only; omega)
theorem partEq_loop (hm : m ≠ .ro) (hL : d.size = L) (hb : L < 1000000) {a i j y : Nat} (ha : a < L) (hi : 1 ≤ i) (hj : j < L) (hij : i ≤ j + 2) (hy1 : i ≤ y) (hy2 : j + 1 ≤ y) {Kn : Value → H → Prop} {Ke0 : Value → H → Prop} {Kr : Value → H → Prop}
    (hk : (Sort.partEqLoop ltInt a i j d).2.size = L → i ≤ (Sort.partEqLoop ltInt a i j d).1 → (Sort.partEqLoop ltInt a i j d).1 ≤ y → Ke0 (.int .i64 ((Sort.partEqLoop ltInt a i j d).1 : Nat)) (AB h0 b E m (Sort.partEqLoop ltInt a i j d).2)) :
    F180_6 (SL b L c) (.int .i64 (a : Nat)) (.int .i64 (i : Nat)) (.int .i64 (j : Nat)) (AB h0 b E m d) Kn Kr Ke0 := by
  unfold F180_6
  refine ⟨fun n s h => ∃ (i' j' : Nat) (d' : Array Int), n = j' + 1 - i' ∧ i ≤ i' ∧ i' ≤ j' + 2 ∧ j' ≤ j ∧ i' ≤ y ∧ s = (SL b L c, .int .i64 (a : Nat), .int .i64 (i' : Nat), .int .i64 (j' : Nat)) ∧ h = AB h0 b E m d' ∧ d'.size = L ∧ Sort.partEqLoop ltInt a i' j' d' = Sort.partEqLoop ltInt a i j d, ⟨_, i, j, d, rfl, Nat.le_refl _, hij, Nat.le_refl _, hy1, rfl, rfl, hL, rfl⟩, ?_⟩
  rintro n s h ⟨i', j', d', rfl, hi', hij', hj', hiy, rfl, rfl, hd', he⟩
  simp only [F180_7, F180_8, F180_9]
  refine up345 hd' hb ha (by omega) ?_
  simp only [F180_16, F180_17]
  rw [Sort.partEqLoop] at he
  try simp only at he
  have hu := scanUp_bd (d := d') (p := fun x => !ltInt d'[a]! x) (j := j') _ i' (Nat.le_refl _)
  generalize Sort.scanUp (fun x => !ltInt d'[a]! x) d' j' i' = i2 at *
  refine down345 hd' hb ha (by omega) (by omega) ?_
  have hd1 := scanDown_le (d := d') (p := fun x => ltInt d'[a]! x) (i := i2) j'
  have hd2 := scanDown_ge (d := d') (p := fun x => ltInt d'[a]! x) (i := i2) (by omega) j'
  generalize Sort.scanDown (fun x => ltInt d'[a]! x) d' i2 j' = j2 at *
  simp only [F180_24, bin_gtr, if_bool]
  by_cases hgt : i2 > j2
  · rw [if_pos (by simp <;> omega)]
    rw [if_pos hgt] at he
    rw [← he] at hk
    exact hk hd' (by simp only; omega) (by simp only; omega)
  · rw [if_neg (by simp <;> omega)]
    rw [if_neg hgt, dif_pos (by omega)] at he
    have h3 : (d'.setIfInBounds i2 d'[j2]!).size = L := by simpa using hd'
    have e5 : ((j2 : Int) - 1) = ((j2 - 1 : Nat) : Int) := by omega
    simp (disch := first | assumption | omega) only [F180_25, F180_26, F180_27, bin_add, bin_sub, wrap64, ix, ld, st, tn0, e5]
    exact ⟨_, by omega, i2 + 1, j2 - 1, swp d' i2 j2, rfl, by omega, by omega, by omega, by omega, by simp, rfl, by rw [swp_size]; exact hd', he⟩
theorem partEq_ok (hm : m ≠ .ro) (hL : d.size = L) (hb : L < 1000000) {x y p : Nat} (hxy : x + 1 < y) (hy : y ≤ L) (hp1 : x ≤ p) (hp2 : p < y) {Q : Value → H → Prop}
    (hq : (Sort.partitionEqual ltInt d x y p).2.size = L → x < (Sort.partitionEqual ltInt d x y p).1 → (Sort.partitionEqual ltInt d x y p).1 ≤ y → Q (.int .i64 (Sort.partitionEqual ltInt d x y p).1) (AB h0 b E m (Sort.partitionEqual ltInt d x y p).2)) :
    AM.Spec Tryz.prog 180 [SL b L c, .int .i64 (x : Nat), .int .i64 (y : Nat), .int .i64 (p : Nat)] (AB h0 b E m d) Q := by
  refine F180_spec _ _ _ _ _ _ ?_
  have h3 : (d.setIfInBounds x d[p]!).size = L := by simpa using hL
  have e1 : ((x : Int) + 1) = ((x + 1 : Nat) : Int) := by omega
  have e2 : ((y : Int) - 1) = ((y - 1 : Nat) : Int) := by omega
  simp (disch := first | assumption | omega) only [F180, F180_0, F180_1, F180_2, F180_3, F180_4, F180_5, ix, ld, st, tn0, bin_add, bin_sub, wrap64, e1, e2]
  have hd1 : (swp d x p).size = L := by rw [swp_size]; exact hL
  unfold Sort.partitionEqual at hq
  show F180_6 _ _ _ _ (AB h0 b E m (swp d x p)) _ _ _
  generalize swp d x p = d1 at *
  refine partEq_loop (y := y) hm hd1 hb (by omega) (by omega) (by omega) (by omega) (by omega) (by omega) fun k1 k2 k3 => ?_
  simp only [F180_28]
  exact hq k1 (by omega) k3
end
end Go.Proofs.YtcohcmlidmaaoaaGreat
