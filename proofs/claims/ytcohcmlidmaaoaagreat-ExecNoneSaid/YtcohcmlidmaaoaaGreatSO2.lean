/-
  The sort of numbers over the abstract memory: the small functions: each does what the kit's plain twin (Derived.Sort.Defs) does.
-/
import Derived.Test.YtcohcmlidmaaoaaGreatSO1
import Derived.Sort.AssemblyPlain
set_option linter.unusedVariables false
set_option linter.unusedSimpArgs false
set_option maxRecDepth 100000
namespace Go.Proofs.YtcohcmlidmaaoaaGreat
open Go.Proofs.YtcohcmlidmaaoaaGreat.AM
open Go.Sort (swp ltInt)
def encD (d : Array Int) : List Value := d.toList.map (.int .u32 ·)
def AB (h0 : H) (b : Nat) (E : TypeId) (m : AM.Own) (d : Array Int) : H := AM.upd h0 b (.cells (encD d) E m)
theorem encD_get {d : Array Int} {n : Nat} (hn : n < d.size) : (encD d)[n]? = some (.int .u32 d[n]!) := by
  unfold encD
  rw [List.getElem?_map, Array.getElem?_toList, getElem!_pos d n hn, Array.getElem?_eq_getElem hn]; rfl
theorem encD_len {d : Array Int} : (encD d).length = d.size := by simp [encD]
section
variable {h0 h : H} {b c L : Nat} {E : TypeId} {m : AM.Own} {d : Array Int}
theorem AB_same : AB h0 b E m d b = some (.cells (encD d) E m) := upd_same _ _ _
theorem ix {k : IntKind} {i : Int} {K : Value → Prop} (h1 : 0 ≤ i) (h2 : i < (L : Nat)) : o_indexAddr none 1 (.slice (some ⟨b, 0, none⟩) L c) (.int k i) K = K (.pointer (some ⟨b, i.toNat, none⟩)) := by
  unfold o_indexAddr
  simp only [Nat.mul_one, Nat.zero_add]
  exact propext ⟨fun h => h.2.2, fun h => ⟨h1, by simpa using h2, h⟩⟩
theorem ld {n : Nat} {K : Value → Prop} (hn : n < d.size) : o_load false 1 (.pointer (some ⟨b, n, none⟩)) (AB h0 b E m d) K = K (.int .u32 d[n]!) := by
  rw [load_cell (v := .int .u32 d[n]!) (by rw [cellAt_of AB_same]; exact encD_get hn)]
theorem AB_upd {o : AObj} : AM.upd (AB h0 b E m d) b o = AM.upd h0 b o := by
  funext x; unfold AB AM.upd; split <;> rfl
theorem st {n : Nat} {x : Int} {K : H → Prop} (hm : m ≠ .ro) (hn : n < d.size) : o_store 1 (.pointer (some ⟨b, n, none⟩)) (.int .u32 x) (AB h0 b E m d) K = K (AB h0 b E m (d.setIfInBounds n x)) := by
  rw [store_ok (n := 1) AB_same hm rfl rfl (by rw [encD_len]; omega), AB_upd]
  have : setL (encD d) n (Value.int .u32 x).cells.toList = encD (d.setIfInBounds n x) := by
    show (encD d).set n (.int .u32 x) = _
    unfold encD
    simp [List.map_set]
  rw [this]; rfl
end
theorem tn0 (j : Nat) : ((j : Int)).toNat = j := by omega
theorem tn1 (j : Nat) : ((j : Int) - 1).toNat = j - 1 := by omega
theorem tna (i j : Nat) : ((i : Int) + (j : Int)).toNat = i + j := by omega
theorem tnk (i j : Nat) : ((i : Int) + (j : Int) + 1).toNat = i + j + 1 := by omega
theorem swp_size {d : Array Int} {i j : Nat} : (swp d i j).size = d.size := by simp [swp]
abbrev SL (b L c : Nat) : Value := .slice (some ⟨b, 0, none⟩) L c
section
variable {h0 : H} {b c L : Nat} {E : TypeId} {m : AM.Own} {d : Array Int}
theorem insertion_ok (hm : m ≠ .ro) (hL : d.size = L) (hb : L < 4611686018427387904) {x y : Nat} (hxy : x ≤ y) (hy : y ≤ L) {Q : Value → H → Prop}
    (hq : Q (.tuple #[]) (AB h0 b E m (Sort.insertionSort ltInt d x y))) : AM.Spec Tryz.prog 173 [SL b L c, .int .i64 (x : Nat), .int .i64 (y : Nat)] (AB h0 b E m d) Q := by
  refine F173_spec _ _ _ _ _ ?_
  simp (disch := omega) only [F173, F173_0, F173_1, F173_2, bin_add, wrap64, List.all_nil, cond_true]
  refine ⟨fun n s h => ∃ (i : Nat) (d' : Array Int), s = (SL b L c, .int .i64 (x : Nat), .int .i64 (y : Nat), .int .i64 (i : Nat)) ∧ h = AB h0 b E m d' ∧ d'.size = L ∧ n = y + 1 - i ∧ x + 1 ≤ i ∧ Sort.insOuter ltInt x y i d' = Sort.insertionSort ltInt d x y,
    ⟨_, x + 1, d, rfl, rfl, hL, rfl, by omega, rfl⟩, ?_⟩
  rintro n s h ⟨i, d', rfl, rfl, hd', rfl, hi, he⟩
  simp only [F173_3, bin_lss, if_bool]
  by_cases hlt : i < y
  · rw [if_pos (by simpa using hlt)]
    simp only [F173_4, F173_5, F173_6, F173_7, F173_8]
    rw [Sort.insOuter, if_pos hlt] at he
    refine ⟨fun n s h => ∃ (j : Nat) (d' : Array Int), s = (SL b L c, .int .i64 (x : Nat), .int .i64 (y : Nat), .int .i64 (i : Nat), .int .i64 (j : Nat)) ∧ h = AB h0 b E m d' ∧ d'.size = L ∧ n = j ∧ j ≤ i ∧ Sort.insOuter ltInt x y (i + 1) (Sort.insInner ltInt x j d') = Sort.insertionSort ltInt d x y,
      ⟨_, i, d', rfl, rfl, hd', rfl, Nat.le_refl _, he⟩, ?_⟩
    rintro j s h ⟨_, d2, rfl, rfl, hd2, rfl, hj, he2⟩
    simp only [F173_9, F173_10, F173_11, F173_12, F173_13, F173_14, F173_15, F173_16, F173_17, bin_gtr]
    have out : Sort.insInner ltInt x j d2 = d2 → ∃ m_1, m_1 < y + 1 - i ∧ ∃ (i_1 : Nat) (d' : Array Int), (SL b L c, Value.int .i64 (x : Nat), Value.int .i64 (y : Nat), Value.int .i64 ((i : Int) + 1)) = (SL b L c, Value.int .i64 (x : Nat), Value.int .i64 (y : Nat), Value.int .i64 (i_1 : Nat)) ∧ AB h0 b E m d2 = AB h0 b E m d' ∧ d'.size = L ∧ m_1 = y + 1 - i_1 ∧ x + 1 ≤ i_1 ∧ Sort.insOuter ltInt x y i_1 d' = Sort.insertionSort ltInt d x y := by
      intro hid
      rw [hid] at he2
      exact ⟨_, by omega, i + 1, d2, by simp, rfl, hd2, rfl, by omega, he2⟩
    by_cases hgt : x < j
    · obtain ⟨k, rfl⟩ : ∃ k, j = k + 1 := ⟨j - 1, by omega⟩
      rw [show decide ((x : Int) < ((k + 1 : Nat) : Int)) = true by simp; omega]
      simp (disch := omega) only [guard_tt, bin_sub, wrap64, ix, ld, dLess, pick_true, if_bool, tn0, tn1, Nat.add_sub_cancel, decide_eq_true_eq]
      rw [Sort.insInner] at he2 out
      by_cases hl : d2[k + 1]! < d2[k]!
      · rw [if_pos hl]
        have hc : (decide (k + 1 > x) && ltInt d2[k + 1]! d2[k]!) = true := by simp [ltInt, hl]; omega
        rw [if_pos hc] at he2
        have h2 : (d2.setIfInBounds (k + 1) d2[k]!).size = L := by simpa using hd2
        simp (disch := first | assumption | omega) only [st, ix, wrap64, tn0, tn1, Nat.add_sub_cancel]
        exact ⟨k, by omega, k, swp d2 (k + 1) k, by simp, rfl, by rw [swp_size]; exact hd2, rfl, by omega, he2⟩
      · rw [if_neg hl]
        have hc : ¬ (decide (k + 1 > x) && ltInt d2[k + 1]! d2[k]!) = true := by simp [ltInt, hl]
        simp (disch := omega) only [bin_add, wrap64]
        exact out (if_neg hc)
    · rw [show decide ((x : Int) < (j : Int)) = false by simp; omega]
      simp (disch := omega) only [guard_ft, pick_false, if_false', bin_add, wrap64]
      refine out ?_
      cases j with
      | zero => rfl
      | succ k => rw [Sort.insInner, if_neg (by simp; omega)]
  · rw [if_neg (by simpa using hlt)]
    rw [Sort.insOuter, if_neg hlt] at he
    rw [he]; exact hq
end
end Go.Proofs.YtcohcmlidmaaoaaGreat
