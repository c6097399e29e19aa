/-
  The sort of numbers over the abstract memory: pdqsort, slices.Sort (fewer than 50 numbers): they are sorted.
-/
import Derived.Test.YtcohcmlidmaaoaaGreatSO5
set_option linter.unusedVariables false
set_option linter.unusedSimpArgs false
set_option maxRecDepth 100000
namespace Go.Proofs.YtcohcmlidmaaoaaGreat
open Go.Proofs.YtcohcmlidmaaoaaGreat.AM
open Go.Sort (swp ltInt)
section
variable {h0 : H} {b c L : Nat} {E : TypeId} {m : AM.Own}
theorem break_size {d : Array Int} {x y : Nat} : (Sort.breakPatterns d x y).size = d.size := by
  unfold Sort.breakPatterns
  simp only
  split
  · simp only [breakStep_size]
  · rfl
theorem reverseRange_size {d : Array Int} {x y : Nat} : (Sort.reverseRange d x y).size = d.size := reverse_size _ _ _ _ (Nat.le_refl _)
theorem hN_dec {x : Sort.Hint} : decide (hN x = 2) = decide (x = .decreasing) := by cases x <;> rfl
theorem hN_inc {x : Sort.Hint} : decide (hN x = 1) = decide (x = .increasing) := by cases x <;> rfl
theorem pdq_A (hm : m ≠ .ro) {d : Array Int} (hL : d.size = L) (hb : L < 50) {x y l : Nat} (hxy : x + 12 < y) (hy : y ≤ L) (hl : l < 1000) (hl0 : l ≠ 0) {wb wp : Bool} {Kn Ke1 : Value → Value → Value → Value → Value → Value → H → Prop} {Kr Ke0 : H → Prop}
    (hk : F164_7 (SL b L c) (.int .i64 (x : Nat)) (.int .i64 (y : Nat)) (.int .i64 ((if !wb then l - 1 else l : Nat))) (.bool wb) (.bool wp) (.int .i64 ((y - x : Nat))) (AB h0 b E m (if !wb then Sort.breakPatterns d x y else d)) Kn Kr Ke1 Ke0) :
    F164_5 (SL b L c) (.int .i64 (x : Nat)) (.int .i64 (y : Nat)) (.int .i64 (l : Nat)) (.bool wb) (.bool wp) (.int .i64 ((y - x : Nat))) (AB h0 b E m d) Kn Kr Ke1 Ke0 := by
  simp only [F164_5, F164_6, un_not, if_bool]
  cases wb with
  | true => exact hk
  | false =>
    simp only [Bool.not_false, if_true]
    refine ⟨rfl, break_ok hm hL hb hxy hy ?_⟩
    have e : ((l : Int) - 1) = ((l - 1 : Nat) : Int) := by omega
    rw [bin_sub, e, wrap64 (by omega) (by omega)]
    exact hk
theorem pdq_B (hm : m ≠ .ro) {d : Array Int} (hL : d.size = L) (hb : L < 50) {x y l : Nat} (hxy : x + 12 < y) (hy : y ≤ L) {wb wp : Bool} {Kn Ke1 : Value → Value → Value → Value → Value → Value → H → Prop} {Kr Ke0 : H → Prop}
    (hk : F164_10 (SL b L c) (.int .i64 (x : Nat)) (.int .i64 (y : Nat)) (.int .i64 (l : Nat)) (.bool wb) (.bool wp) (.int .i64 ((y - x : Nat))) (.int .i64 ((if (Sort.choosePivot ltInt d x y).2 = .decreasing then (y - 1) - ((Sort.choosePivot ltInt d x y).1 - x) else (Sort.choosePivot ltInt d x y).1 : Nat)))
      (.int .i64 (hN (if (Sort.choosePivot ltInt d x y).2 = .decreasing then .increasing else (Sort.choosePivot ltInt d x y).2))) (AB h0 b E m (if (Sort.choosePivot ltInt d x y).2 = .decreasing then Sort.reverseRange d x y else d)) Kn Kr Ke1 Ke0) :
    F164_7 (SL b L c) (.int .i64 (x : Nat)) (.int .i64 (y : Nat)) (.int .i64 (l : Nat)) (.bool wb) (.bool wp) (.int .i64 ((y - x : Nat))) (AB h0 b E m d) Kn Kr Ke1 Ke0 := by
  simp only [F164_7]
  refine ⟨rfl, pivot_ok hL hb hxy hy ?_⟩
  rw [ex0, ex1]
  have hr := Sort.choosePivot_holds ltInt d x y (by omega)
  generalize Sort.choosePivot ltInt d x y = q at *
  simp only [F164_8, F164_9, bin_eql, if_bool, hN_dec, decide_eq_true_eq]
  by_cases hd : q.2 = .decreasing
  · rw [if_pos hd]
    rw [if_pos hd, if_pos hd, if_pos hd] at hk
    refine ⟨rfl, reverse_ok hm hL (by omega) (by omega) hy ?_⟩
    have e : (((y : Int) - 1) - ((q.1 : Int) - (x : Int))) = (((y - 1) - (q.1 - x) : Nat) : Int) := by omega
    simp (disch := omega) only [bin_sub, wrap64, e]
    exact hk
  · rw [if_neg hd]
    rw [if_neg hd, if_neg hd, if_neg hd] at hk
    exact hk
theorem pdq_C {d : Array Int} (hL : d.size = L) (hb : L < 50) {x y l : Nat} (hxy : x + 12 < y) (hy : y ≤ L) {wb wp : Bool} {hint : Sort.Hint} {x10 x11 : Value} {Kn Ke1 : Value → Value → Value → Value → Value → Value → H → Prop} {Kr Ke0 : H → Prop}
    (hk1 : (if wb && wp && decide (hint = .increasing) then Sort.partialInsertionSort ltInt d x y else (d, false)).2 = true → Kr (AB h0 b E m d))
    (hk2 : (if wb && wp && decide (hint = .increasing) then Sort.partialInsertionSort ltInt d x y else (d, false)).2 = false → F164_12 (SL b L c) (.int .i64 (x : Nat)) (.int .i64 (y : Nat)) (.int .i64 (l : Nat)) (.bool wb) (.bool wp) x10 x11 (AB h0 b E m d) Kn Kr Ke1 Ke0) :
    F164_10 (SL b L c) (.int .i64 (x : Nat)) (.int .i64 (y : Nat)) (.int .i64 (l : Nat)) (.bool wb) (.bool wp) x10 x11 (.int .i64 (hN hint)) (AB h0 b E m d) Kn Kr Ke1 Ke0 := by
  simp only [F164_10, F164_11]
  have main : (wb && wp && decide (hint = .increasing)) = true → AM.Spec Tryz.prog 178 [SL b L c, .int .i64 (x : Nat), .int .i64 (y : Nat)] (AB h0 b E m d) (fun v72 h => o_if v72 (Kr h) (F164_12 (SL b L c) (.int .i64 (x : Nat)) (.int .i64 (y : Nat)) (.int .i64 (l : Nat)) (.bool wb) (.bool wp) x10 x11 h Kn Kr Ke1 Ke0)) := by
    intro hc
    rw [if_pos hc] at hk1 hk2
    refine partial_ok hL hb (by omega) hy ?_
    rw [if_bool]
    cases hq : (Sort.partialInsertionSort ltInt d x y).2 with
    | true => rw [if_pos rfl]; exact hk1 hq
    | false => rw [if_neg (by simp)]; exact hk2 hq
  have skip : (wb && wp && decide (hint = .increasing)) = false → F164_12 (SL b L c) (.int .i64 (x : Nat)) (.int .i64 (y : Nat)) (.int .i64 (l : Nat)) (.bool wb) (.bool wp) x10 x11 (AB h0 b E m d) Kn Kr Ke1 Ke0 := by
    intro hc
    rw [if_neg (by rw [hc]; simp)] at hk2
    exact hk2 rfl
  cases wb with
  | false =>
    simp only [guard_ft, pick_false, if_false']
    exact skip rfl
  | true =>
    simp only [guard_tt, pick_true]
    cases wp with
    | false =>
      simp only [guard_ft, pick_false, if_false']
      exact skip rfl
    | true =>
      simp only [guard_tt, pick_true, bin_eql, if_bool, hN_inc, decide_eq_true_eq]
      by_cases hi : hint = .increasing
      · rw [if_pos hi]
        exact ⟨rfl, main (by simp [hi])⟩
      · rw [if_neg hi]
        exact skip (by simp [hi])
theorem pdq_D {d : Array Int} (hL : d.size = L) (hb : L < 50) {x y l p : Nat} (hxy : x + 12 < y) (hy : y ≤ L) (hp1 : x ≤ p) (hp2 : p < y) {wb wp : Bool} {x10 : Value} {Kn Ke1 : Value → Value → Value → Value → Value → Value → H → Prop} {Kr Ke0 : H → Prop}
    (hk1 : (decide (x > 0) && !ltInt d[x - 1]! d[p]!) = true → o_call Tryz.prog 180 [SL b L c, .int .i64 (x : Nat), .int .i64 (y : Nat), .int .i64 (p : Nat)] (AB h0 b E m d) fun v92 h => Ke1 (SL b L c) v92 (.int .i64 (y : Nat)) (.int .i64 (l : Nat)) (.bool wb) (.bool wp) h)
    (hk2 : (decide (x > 0) && !ltInt d[x - 1]! d[p]!) = false → F164_16 (SL b L c) (.int .i64 (x : Nat)) (.int .i64 (y : Nat)) (.int .i64 (l : Nat)) x10 (.int .i64 (p : Nat)) (AB h0 b E m d) Kn Kr Ke1 Ke0) :
    F164_12 (SL b L c) (.int .i64 (x : Nat)) (.int .i64 (y : Nat)) (.int .i64 (l : Nat)) (.bool wb) (.bool wp) x10 (.int .i64 (p : Nat)) (AB h0 b E m d) Kn Kr Ke1 Ke0 := by
  simp only [F164_12, F164_13, F164_14, F164_15, bin_gtr]
  by_cases hx : x > 0
  · rw [show decide ((0 : Int) < (x : Int)) = true by simp <;> omega]
    simp (disch := omega) only [guard_tt, bin_sub, wrap64, ix, ld, tn0, tn1, dLess, un_not, pick_true, if_bool]
    by_cases hlt : d[x - 1]! < d[p]!
    · rw [if_neg (by simp [hlt])]
      exact hk2 (by simp [ltInt, hlt])
    · rw [if_pos (by simp [hlt])]
      exact hk1 (by simp [ltInt, hlt, hx])
  · rw [show decide ((0 : Int) < (x : Int)) = false by simp <;> omega]
    simp only [guard_ft, pick_false, if_false']
    exact hk2 (by simp [hx])
set_option maxHeartbeats 1000000 in
theorem pdq_ok (hm : m ≠ .ro) (hb : L < 50) : ∀ (n : Nat) {d : Array Int} {x y limit : Nat}, y - x ≤ n → d.size = L → x ≤ y → y ≤ L → limit < 1000 → ∀ {Q : Value → H → Prop}, (∀ d', d'.size = L → d' = Sort.pdq ltInt d x y limit true true → Q (.tuple #[]) (AB h0 b E m d')) →
    AM.Spec Tryz.prog 164 [SL b L c, .int .i64 (x : Nat), .int .i64 (y : Nat), .int .i64 (limit : Nat)] (AB h0 b E m d) Q := by
  intro n
  induction n using Nat.strongRecOn with
  | ind n ihn =>
  intro d x y limit hn hL hxy hy hlim Q hq
  refine F164_spec _ _ _ _ _ _ ?_
  simp only [F164, F164_0, F164_1, F164_2, List.all_nil, cond_true]
  refine ⟨fun k s h => ∃ (x' y' l' : Nat) (wb wp : Bool) (d' : Array Int), k = y' - x' ∧ x' ≤ y' ∧ y' ≤ L ∧ y' - x' ≤ n ∧ l' < 1000 ∧ s = (SL b L c, .int .i64 (x' : Nat), .int .i64 (y' : Nat), .int .i64 (l' : Nat), .bool wb, .bool wp) ∧ h = AB h0 b E m d' ∧ d'.size = L ∧ Sort.pdq ltInt d' x' y' l' wb wp = Sort.pdq ltInt d x y limit true true,
    ⟨_, x, y, limit, true, true, d, rfl, hxy, hy, hn, hlim, rfl, rfl, hL, rfl⟩, ?_⟩
  rintro k s h ⟨x', y', l', wb, wp, d', rfl, hxy', hy', hn', hl', rfl, rfl, hd', he⟩
  have e1 : ((y' : Int) - (x' : Int)) = ((y' - x' : Nat) : Int) := by omega
  simp (disch := omega) only [F164_3, F164_4, bin_sub, wrap64, e1, bin_leq, if_bool]
  rw [Sort.pdq] at he
  by_cases h12 : y' - x' ≤ 12
  · rw [if_pos (by simp <;> omega)]
    rw [if_pos h12] at he
    refine ⟨rfl, insertion_ok hm hd' (by omega) hxy' hy' ?_⟩
    exact hq _ ((Sort.insertionSort_holds Sort.swo_ltInt d' x' y' hxy' (by omega)).1.1.trans hd') he
  rw [if_neg (by simp <;> omega)]
  rw [if_neg h12] at he
  simp only [bin_eql, if_bool]
  by_cases hl0 : l' = 0
  · rw [if_pos (by simp [hl0])]
    rw [if_pos hl0] at he
    refine ⟨rfl, heap_ok hm hd' (by omega) (by omega) hy' ?_⟩
    exact hq _ ((Sort.heapSort_holds Sort.swo_ltInt d' x' y' hxy' (by omega)).1.1.trans hd') he
  rw [if_neg (by simp <;> omega)]
  rw [if_neg hl0] at he
  have hxy2 : x' + 12 < y' := by omega
  refine pdq_A hm hd' hb hxy2 hy' hl' hl0 ?_
  simp only at he
  have hd1 : (if (!wb) = true then Sort.breakPatterns d' x' y' else d').size = L := by
    split
    · rw [break_size]; exact hd'
    · exact hd'
  have hl1 : (if (!wb) = true then l' - 1 else l') < 1000 := by split <;> omega
  generalize (if (!wb) = true then Sort.breakPatterns d' x' y' else d') = d1 at *
  generalize (if (!wb) = true then l' - 1 else l') = l1 at *
  refine pdq_B hm hd1 hb hxy2 hy' ?_
  have hpv : x' ≤ (if (Sort.choosePivot ltInt d1 x' y').2 = .decreasing then (y' - 1) - ((Sort.choosePivot ltInt d1 x' y').1 - x') else (Sort.choosePivot ltInt d1 x' y').1) ∧ (if (Sort.choosePivot ltInt d1 x' y').2 = .decreasing then (y' - 1) - ((Sort.choosePivot ltInt d1 x' y').1 - x') else (Sort.choosePivot ltInt d1 x' y').1) < y' := by
    have hr := Sort.choosePivot_holds ltInt d1 x' y' (by omega)
    split <;> omega
  have hd2 : (if (Sort.choosePivot ltInt d1 x' y').2 = .decreasing then Sort.reverseRange d1 x' y' else d1).size = L := by
    split
    · rw [reverseRange_size]; exact hd1
    · exact hd1
  generalize (if (Sort.choosePivot ltInt d1 x' y').2 = .decreasing then (y' - 1) - ((Sort.choosePivot ltInt d1 x' y').1 - x') else (Sort.choosePivot ltInt d1 x' y').1) = p at *
  generalize (if (Sort.choosePivot ltInt d1 x' y').2 = .decreasing then Sort.reverseRange d1 x' y' else d1) = d2 at *
  generalize (if (Sort.choosePivot ltInt d1 x' y').2 = .decreasing then Sort.Hint.increasing else (Sort.choosePivot ltInt d1 x' y').2) = hint at *
  have hpi : ∀ q, (if wb && wp && decide (hint = .increasing) then Sort.partialInsertionSort ltInt d2 x' y' else (d2, false)) = q → q.1 = d2 := by
    rintro q rfl
    split
    · rw [partial_eq (by omega)]
    · rfl
  refine pdq_C hd2 hb hxy2 hy' (fun hpt => ?_) (fun hpf => ?_)
  · rw [if_pos hpt, hpi _ rfl] at he
    exact hq _ hd2 he
  rw [if_neg (by rw [hpf]; simp), hpi _ rfl] at he
  refine pdq_D hd2 hb hxy2 hy' hpv.1 hpv.2 (fun hc => ?_) (fun hc => ?_)
  · rw [if_pos hc] at he
    refine ⟨rfl, partEq_ok hm hd2 (by omega) (by omega) hy' hpv.1 hpv.2 fun k1 k2 k3 => ?_⟩
    generalize Sort.partitionEqual ltInt d2 x' y' p = r at *
    obtain ⟨mid, d4⟩ := r
    simp only at he k1 k2 k3
    rw [dif_pos ⟨k2, k3⟩] at he
    exact ⟨_, by omega, mid, y', l1, wb, wp, d4, rfl, by omega, hy', by omega, hl1, rfl, rfl, k1, he⟩
  · rw [if_neg (by rw [hc]; simp)] at he
    simp only [F164_16]
    refine ⟨rfl, partition_ok hm hd2 (by omega) (by omega) hy' hpv.1 hpv.2 fun k1 k2 k3 => ?_⟩
    rw [ex0, ex1]
    generalize Sort.partition ltInt d2 x' y' p = r at *
    obtain ⟨mid, al, d4⟩ := r
    simp only at he k1 k2 k3
    rw [dif_pos ⟨k2, k3⟩] at he
    have e2 : ((mid : Int) - (x' : Int)) = ((mid - x' : Nat) : Int) := by omega
    have e3 : ((y' : Int) - (mid : Int)) = ((y' - mid : Nat) : Int) := by omega
    have e4 : (((y' - x' : Nat) : Int)).tdiv 8 = (((y' - x') / 8 : Nat) : Int) := by
      rw [Int.tdiv_eq_ediv_of_nonneg (by omega)]; omega
    have e5 : ((mid : Int) + 1) = ((mid + 1 : Nat) : Int) := by omega
    simp (disch := omega) only [bin_sub, wrap64, e2, e3, bin_quo, e4, bin_lss, if_bool, bin_add, e5, bin_geq]
    by_cases hlt : mid - x' < y' - mid
    · rw [if_pos (by simp <;> omega)]
      rw [if_pos hlt] at he
      refine ⟨rfl, ihn (mid - x') (by omega) (Nat.le_refl _) k1 k2 (by omega) hl1 fun d5 h5 hd5 => ?_⟩
      have hw : decide ((((y' - x') / 8 : Nat) : Int) ≤ ((mid - x' : Nat) : Int)) = decide (mid - x' ≥ (y' - x') / 8) := by
        simp only [ge_iff_le, Int.ofNat_le]
      rw [hw]
      rw [← hd5] at he
      exact ⟨_, by omega, mid + 1, y', l1, _, al, d5, rfl, by omega, hy', by omega, hl1, rfl, rfl, h5, he⟩
    · rw [if_neg (by simp <;> omega)]
      rw [if_neg hlt] at he
      refine ⟨rfl, ihn (y' - (mid + 1)) (by omega) (Nat.le_refl _) k1 (by omega) hy' hl1 fun d5 h5 hd5 => ?_⟩
      have hw : decide ((((y' - x') / 8 : Nat) : Int) ≤ ((y' - mid : Nat) : Int)) = decide (y' - mid ≥ (y' - x') / 8) := by
        simp only [ge_iff_le, Int.ofNat_le]
      rw [hw]
      rw [← hd5] at he
      exact ⟨_, by omega, x', mid, l1, _, al, d5, rfl, k2, by omega, by omega, hl1, rfl, rfl, h5, he⟩
theorem sort_ok (hm : m ≠ .ro) {d : Array Int} (hL : d.size = L) (hb : L < 50) {Q : Value → H → Prop} (hq : Q (.tuple #[]) (AB h0 b E m (d.toList.mergeSort fun x y => decide (x ≤ y)).toArray)) :
    AM.Spec Tryz.prog 141 [SL b L c] (AB h0 b E m d) Q := by
  refine F141_spec _ _ _ ?_
  simp only [F141, F141_0, len_sl, conv_int, u64_wrap (show L < 18446744073709551616 by omega), List.all_nil, cond_true]
  refine ⟨rfl, len_ok (by omega) ?_⟩
  have hl : Sort.bitsLen L < 1000 := by
    unfold Sort.bitsLen
    split
    · omega
    · have := (Nat.log2_lt (n := L) (k := 6) (by omega)).2 (by omega)
      omega
  refine ⟨rfl, ?_⟩
  have e0 : (Value.int .i64 0) = .int .i64 ((0 : Nat) : Int) := rfl
  rw [e0]
  refine pdq_ok hm hb L (Nat.le_of_eq (by omega)) hL (Nat.zero_le _) (Nat.le_refl _) hl fun d' h1 h2 => ?_
  have h3 : Sort.sort ltInt d = d' := by rw [h2, Sort.sort, hL]
  have h4 := Sort.sortInt d.toList
  rw [Array.toArray_toList, h3] at h4
  rw [← h4, Array.toArray_toList] at hq
  exact hq
end
end Go.Proofs.YtcohcmlidmaaoaaGreat
