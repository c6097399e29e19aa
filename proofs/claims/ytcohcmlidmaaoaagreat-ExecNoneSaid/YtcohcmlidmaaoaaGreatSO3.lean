/-
  The sort of numbers over the abstract memory: the heap, the turning about, the pivot.
-/
import Derived.Test.YtcohcmlidmaaoaaGreatSO2
set_option linter.unusedVariables false
set_option linter.unusedSimpArgs false
set_option maxRecDepth 100000
namespace Go.Proofs.YtcohcmlidmaaoaaGreat
open Go.Proofs.YtcohcmlidmaaoaaGreat.AM
open Go.Sort (swp ltInt)
section
variable {h0 : H} {b c L : Nat} {E : TypeId} {m : AM.Own} {d : Array Int}
theorem sift_size {hi first : Nat} : ∀ (n root : Nat) (d : Array Int), hi - root ≤ n → (Sort.siftDown ltInt hi first root d).size = d.size := by
  intro n
  induction n with
  | zero => intro root d hn; rw [Sort.siftDown, dif_pos (by omega)]
  | succ n ih =>
    intro root d hn
    rw [Sort.siftDown]
    split
    · rfl
    · split
      · split
        · rfl
        · split
          · rw [ih _ _ (by omega), swp_size]
          · rfl
      · split
        · rfl
        · rw [ih _ _ (by omega), swp_size]
theorem sift_ok (hm : m ≠ .ro) (hL : d.size = L) (hb : L < 1000000) {lo hi first : Nat} (hlo : lo < 1000000) (hf : first + hi ≤ L) {Q : Value → H → Prop}
    (hq : Q (.tuple #[]) (AB h0 b E m (Sort.siftDown ltInt hi first lo d))) : AM.Spec Tryz.prog 185 [SL b L c, .int .i64 (lo : Nat), .int .i64 (hi : Nat), .int .i64 (first : Nat)] (AB h0 b E m d) Q := by
  refine F185_spec _ _ _ _ _ _ ?_
  simp only [F185, F185_0, F185_1, F185_2, List.all_nil, cond_true]
  refine ⟨fun n s h => ∃ (r : Nat) (d' : Array Int), s = (SL b L c, .int .i64 (hi : Nat), .int .i64 (first : Nat), .int .i64 (r : Nat)) ∧ h = AB h0 b E m d' ∧ d'.size = L ∧ n = hi - r ∧ r < 1000000 ∧ Sort.siftDown ltInt hi first r d' = Sort.siftDown ltInt hi first lo d,
    ⟨_, lo, d, rfl, rfl, hL, rfl, hlo, rfl⟩, ?_⟩
  rintro n s h ⟨r, d', rfl, rfl, hd', rfl, hr, he⟩
  simp (disch := omega) only [F185_3, F185_4, bin_mul, bin_add, wrap64, bin_geq, if_bool]
  have ecast : (2 * (r : Int) + 1) = ((2 * r + 1 : Nat) : Int) := by omega
  rw [ecast]
  rw [Sort.siftDown] at he
  by_cases hge : 2 * r + 1 ≥ hi
  · rw [dif_pos hge] at he
    rw [if_pos (by simp <;> omega), he]
    exact hq
  rw [dif_neg hge] at he
  rw [if_neg (by simp <;> omega)]
  simp only [F185_5, F185_6, F185_7, F185_8]
  -- behind the choice of the child
  have rest : ∀ ch : Nat, 2 * r + 1 ≤ ch → ch < hi → (if !ltInt d'[first + r]! d'[first + ch]! then d' else Sort.siftDown ltInt hi first ch (swp d' (first + r) (first + ch))) = Sort.siftDown ltInt hi first lo d →
      F185_9 (SL b L c) (.int .i64 (hi : Nat)) (.int .i64 (first : Nat)) (.int .i64 (r : Nat)) (.int .i64 (ch : Nat)) (AB h0 b E m d')
        (fun y0 y2 y3 y8 h => ∃ m_1, m_1 < hi - r ∧ ∃ (r : Nat) (d' : Array Int), (y0, y2, y3, y8) = (SL b L c, Value.int .i64 (hi : Nat), Value.int .i64 (first : Nat), Value.int .i64 (r : Nat)) ∧ h = AB h0 b E m d' ∧ d'.size = L ∧ m_1 = hi - r ∧ r < 1000000 ∧ Sort.siftDown ltInt hi first r d' = Sort.siftDown ltInt hi first lo d)
        (fun h => Q (.tuple #[]) h)
        (fun y0 y2 y3 y8 h => ∃ m_1, m_1 < hi - r ∧ ∃ (r : Nat) (d' : Array Int), (y0, y2, y3, y8) = (SL b L c, Value.int .i64 (hi : Nat), Value.int .i64 (first : Nat), Value.int .i64 (r : Nat)) ∧ h = AB h0 b E m d' ∧ d'.size = L ∧ m_1 = hi - r ∧ r < 1000000 ∧ Sort.siftDown ltInt hi first r d' = Sort.siftDown ltInt hi first lo d)
        (fun h => Q (.tuple #[]) h) := by
    intro ch h1 h2 he2
    simp (disch := omega) only [F185_9, F185_10, F185_11, F185_12, bin_add, wrap64, ix, ld, tna, dLess, un_not, if_bool]
    by_cases hl : d'[first + r]! < d'[first + ch]!
    · rw [if_neg (by simp [hl])]
      rw [if_neg (by simp [ltInt, hl])] at he2
      have h3 : (d'.setIfInBounds (first + r) d'[first + ch]!).size = L := by simpa using hd'
      simp (disch := first | assumption | omega) only [F185_13, F185_14, F185_15, bin_add, wrap64, ix, ld, st, tna]
      exact ⟨_, by omega, ch, swp d' (first + r) (first + ch), rfl, rfl, by rw [swp_size]; exact hd', rfl, by omega, he2⟩
    · rw [if_pos (by simp [hl])]
      rw [if_pos (by simp [ltInt, hl])] at he2
      rw [he2]; exact hq
  by_cases h2 : 2 * r + 1 + 1 < hi
  · simp (disch := omega) only [bin_add, wrap64, bin_lss]
    rw [show decide ((((2 * r + 1 : Nat) : Int) + 1) < (hi : Int)) = true by simp <;> omega]
    simp (disch := omega) only [guard_tt, bin_add, wrap64, ix, ld, tna, tnk, dLess, pick_true, if_bool]
    by_cases hl : d'[first + (2 * r + 1)]! < d'[first + (2 * r + 1) + 1]!
    · rw [if_pos (by simpa using hl)]
      have hc : (decide (2 * r + 1 + 1 < hi) && ltInt d'[first + (2 * r + 1)]! d'[first + (2 * r + 1) + 1]!) = true := by simp [ltInt, hl, h2]
      rw [if_pos hc] at he
      have e3 : ((2 * r + 1 : Nat) : Int) + 1 = ((2 * r + 2 : Nat) : Int) := by omega
      rw [e3]
      refine rest (2 * r + 2) (by omega) (by omega) ?_
      rw [← he, dif_pos (show 2 * r + 2 < hi by omega)]
    · rw [if_neg (by simpa using hl)]
      have hc : ¬ (decide (2 * r + 1 + 1 < hi) && ltInt d'[first + (2 * r + 1)]! d'[first + (2 * r + 1) + 1]!) = true := by simp [ltInt, hl]
      rw [if_neg hc] at he
      exact rest (2 * r + 1) (by omega) (by omega) he
  · simp (disch := omega) only [bin_add, wrap64, bin_lss]
    rw [show decide ((((2 * r + 1 : Nat) : Int) + 1) < (hi : Int)) = false by simp <;> omega]
    simp only [guard_ft, pick_false, if_false']
    have hc : ¬ (decide (2 * r + 1 + 1 < hi) && ltInt d'[first + (2 * r + 1)]! d'[first + (2 * r + 1) + 1]!) = true := by simp [h2]
    rw [if_neg hc] at he
    exact rest (2 * r + 1) (by omega) (by omega) he
theorem heap_ok (hm : m ≠ .ro) (hL : d.size = L) (hb : L < 1000000) {x y : Nat} (hxy : x < y) (hy : y ≤ L) {Q : Value → H → Prop}
    (hq : Q (.tuple #[]) (AB h0 b E m (Sort.heapSort ltInt d x y))) : AM.Spec Tryz.prog 174 [SL b L c, .int .i64 (x : Nat), .int .i64 (y : Nat)] (AB h0 b E m d) Q := by
  refine F174_spec _ _ _ _ _ ?_
  have e1 : ((y : Int) - (x : Int)) = ((y - x : Nat) : Int) := by omega
  have e2 : (((y - x : Nat) : Int) - 1).tdiv 2 = (((y - x - 1) / 2 : Nat) : Int) := by
    rw [Int.tdiv_eq_ediv_of_nonneg (by omega)]; omega
  simp (disch := omega) only [F174, F174_0, F174_1, F174_2, F174_3, F174_4, bin_sub, wrap64, e1, bin_quo, e2, List.all_nil, cond_true]
  refine ⟨fun n s h => ∃ (k : Nat) (d' : Array Int), s = (SL b L c, .int .i64 (x : Nat), .int .i64 0, .int .i64 ((y - x : Nat)), .int .i64 ((k : Int) - 1)) ∧ h = AB h0 b E m d' ∧ d'.size = L ∧ n = k ∧ k < 1000000 ∧ Sort.heapPop ltInt x (y - x) (Sort.heapBuild ltInt (y - x) x k d') = Sort.heapSort ltInt d x y,
    ⟨_, (y - x - 1) / 2 + 1, d, by simp, rfl, hL, rfl, by omega, rfl⟩, ?_⟩
  rintro k s h ⟨_, d', rfl, rfl, hd', rfl, hk, he⟩
  simp only [F174_5, bin_geq, if_bool]
  cases k with
  | zero =>
    rw [if_neg (by simp)]
    simp (disch := omega) only [F174_6, F174_7, F174_8, bin_sub, wrap64]
    rw [Sort.heapBuild] at he
    refine ⟨fun n s h => ∃ (k : Nat) (d' : Array Int), s = (SL b L c, .int .i64 (x : Nat), .int .i64 0, .int .i64 ((k : Int) - 1)) ∧ h = AB h0 b E m d' ∧ d'.size = L ∧ n = k ∧ k ≤ y - x ∧ Sort.heapPop ltInt x k d' = Sort.heapSort ltInt d x y,
      ⟨_, y - x, d', rfl, rfl, hd', rfl, Nat.le_refl _, he⟩, ?_⟩
    rintro k s h ⟨_, d2, rfl, rfl, hd2, rfl, hk2, he2⟩
    simp only [F174_9, bin_geq, if_bool]
    cases k with
    | zero =>
      rw [if_neg (by simp)]
      rw [Sort.heapPop] at he2
      rw [he2]; exact hq
    | succ k =>
      rw [if_pos (by simp <;> omega)]
      have e4 : (((k + 1 : Nat) : Int) - 1) = (k : Int) := by omega
      have h3 : (d2.setIfInBounds x d2[x + k]!).size = L := by simpa using hd2
      simp (disch := first | assumption | omega) only [e4, F174_10, F174_11, F174_12, F174_13, F174_14, F174_15, bin_add, wrap64, ix, ld, st, tna, tn0]
      refine ⟨rfl, sift_ok (d := swp d2 x (x + k)) (lo := 0) hm (by rw [swp_size]; exact hd2) hb (by omega) (by omega) ?_⟩
      simp (disch := omega) only [bin_sub, wrap64]
      rw [Sort.heapPop] at he2
      exact ⟨_, by omega, k, _, rfl, rfl, by rw [sift_size _ _ _ (Nat.le_refl _), swp_size]; exact hd2, rfl, by omega, he2⟩
  | succ k =>
    rw [if_pos (by simp <;> omega)]
    have e4 : (((k + 1 : Nat) : Int) - 1) = (k : Int) := by omega
    rw [e4]
    refine ⟨rfl, sift_ok hm hd' hb (by omega) (by omega) ?_⟩
    simp (disch := omega) only [bin_sub, wrap64]
    rw [Sort.heapBuild] at he
    exact ⟨_, by omega, k, _, rfl, rfl, by rw [sift_size _ _ _ (Nat.le_refl _)]; exact hd', rfl, by omega, he⟩
theorem reverse_size : ∀ (n i j : Nat) (d : Array Int), j - i ≤ n → (Sort.reverseLoop i j d).size = d.size := by
  intro n
  induction n with
  | zero => intro i j d hn; rw [Sort.reverseLoop, if_neg (by omega)]
  | succ n ih =>
    intro i j d hn
    rw [Sort.reverseLoop]
    split
    · rw [ih _ _ _ (by omega), swp_size]
    · rfl
theorem reverse_ok (hm : m ≠ .ro) (hL : d.size = L) (hb : L < 1000000) {x y : Nat} (hxy : x < y) (hy : y ≤ L) {Q : Value → H → Prop}
    (hq : Q (.tuple #[]) (AB h0 b E m (Sort.reverseRange d x y))) : AM.Spec Tryz.prog 177 [SL b L c, .int .i64 (x : Nat), .int .i64 (y : Nat)] (AB h0 b E m d) Q := by
  refine F177_spec _ _ _ _ _ ?_
  have e1 : ((y : Int) - 1) = ((y - 1 : Nat) : Int) := by omega
  simp (disch := omega) only [F177, F177_0, F177_1, F177_2, bin_sub, wrap64, e1, List.all_nil, cond_true]
  refine ⟨fun n s h => ∃ (i j : Nat) (d' : Array Int), s = (SL b L c, .int .i64 (i : Nat), .int .i64 (j : Nat)) ∧ h = AB h0 b E m d' ∧ d'.size = L ∧ n = j - i ∧ j < L ∧ Sort.reverseLoop i j d' = Sort.reverseRange d x y,
    ⟨_, x, y - 1, d, rfl, rfl, hL, rfl, by omega, rfl⟩, ?_⟩
  rintro n s h ⟨i, j, d', rfl, rfl, hd', rfl, hj, he⟩
  simp only [F177_3, bin_lss, if_bool]
  rw [Sort.reverseLoop] at he
  by_cases hlt : i < j
  · rw [if_pos (by simpa using hlt)]
    rw [if_pos hlt] at he
    have h3 : (d'.setIfInBounds i d'[j]!).size = L := by simpa using hd'
    have e5 : ((j : Int) - 1) = ((j - 1 : Nat) : Int) := by omega
    simp (disch := first | assumption | omega) only [F177_4, F177_5, F177_6, F177_7, bin_add, bin_sub, wrap64, ix, ld, st, tn0, e5]
    exact ⟨_, by omega, i + 1, j - 1, swp d' i j, by simp, rfl, by rw [swp_size]; exact hd', rfl, by omega, he⟩
  · rw [if_neg (by simpa using hlt)]
    rw [if_neg hlt] at he
    rw [he]; exact hq
end
end Go.Proofs.YtcohcmlidmaaoaaGreat
