/-
  ExecMarks, in plain words: what a list of marks comes to; that it may be.
-/
import Derived.Test.YtcohcmlidmaaoaaGreatU3
set_option linter.unusedSimpArgs false
set_option linter.unusedVariables false
namespace Go.Proofs.YtcohcmlidmaaoaaGreat
open AM

structure St where
  pc : Int
  ret : Int
  g : Int
def stepN (wr wg : Int → Int) (fuel g0 p : Int) (s : St) (n : Nd) : St × Bool :=
  if n.op = 8 then (⟨n.v, s.ret, s.g⟩, decide (fuel ≤ s.ret) || !decide (s.g = g0))
  else if n.op = 7 then (⟨s.pc, s.ret, if p = 4200 then wg (s.g + 1) else s.g⟩, false)
  else if n.op = 9 then (⟨s.pc, wr (s.ret + 1), s.g⟩, false)
  else if n.op = 12 then (⟨n.v, s.ret, s.g⟩, true)
  else (s, false)
def runN (wr wg : Int → Int) (fuel g0 p : Int) : List Nd → St → St
  | [], s => s
  | n :: r, s => if (stepN wr wg fuel g0 p s n).2 = true then (stepN wr wg fuel g0 p s n).1 else runN wr wg fuel g0 p r (stepN wr wg fuel g0 p s n).1
def seg (at_ : Int) (i : Nat) : List Nd := (if 0 < i then [⟨8, 0, 0, 0, 4096 + 4 * (i : Int)⟩] else []) ++ ((if (i : Int) = at_ then [⟨7, 0, 1, 1, 4⟩] else []) ++ [⟨9, 0, 0, 0, 0⟩])
def segs (at_ : Int) : Nat → Nat → List Nd
  | _, 0 => []
  | j, k + 1 => seg at_ j ++ segs at_ (j + 1) k
theorem segs_end (at_ : Int) : ∀ k j, segs at_ j (k + 1) = segs at_ j k ++ seg at_ (j + k)
  | 0, j => by simp [segs]
  | k + 1, j => by
    rw [segs, segs_end at_ k (j + 1), segs, List.append_assoc]
    congr 2
    rw [Nat.add_assoc, Nat.add_comm 1 k]
def doneB (n fuel at_ : Int) (other : Bool) : Int :=
  let d := if fuel < n then fuel else n
  if 0 ≤ at_ ∧ other = false ∧ at_ + 1 < d then at_ + 1 else d
theorem run_law {wr wg : Int → Int} (hr : ∀ x, 0 ≤ x → x < 1000 → wr x = x) {n fuel at_ p g0 : Int} {other : Bool} (hg : wg (g0 + 1) ≠ g0) (hp : p = 4200 ↔ other = false) (hn : n ≤ 20) (hat : at_ < n) :
    ∀ (k j : Nat) (s : St), n = j + k → 1 ≤ j → (j : Int) ≤ fuel → s.ret = j → (p = 4200 → at_ < 0 ∨ (j : Int) - 1 ≤ at_) → (s.g = g0 ↔ ¬ (p = 4200 ∧ at_ = j - 1)) →
      (runN wr wg fuel g0 p (segs at_ j k ++ [⟨12, 0, 0, 0, 4096 + 4 * n⟩]) s).pc = 4096 + 4 * doneB n fuel at_ other ∧ (runN wr wg fuel g0 p (segs at_ j k ++ [⟨12, 0, 0, 0, 4096 + 4 * n⟩]) s).ret = doneB n fuel at_ other := by
  intro k
  induction k with
  | zero =>
    intro j s hnj hj hf hs hst hd
    have e : doneB n fuel at_ other = n := by
      unfold doneB
      have h1 : ¬ fuel < n := by omega
      simp only [h1, if_false]
      rw [if_neg]
      rintro ⟨h2, h3, h4⟩
      have := hst (hp.2 h3)
      omega
    simp [segs, runN, stepN, e]
    omega
  | succ k ih =>
    intro j s hnj hj hf hs hst hd
    rw [segs, seg, if_pos (by omega)]
    simp only [List.append_assoc, List.singleton_append, List.cons_append, List.nil_append]
    rw [runN]
    by_cases h1 : fuel ≤ s.ret
    · have : (stepN wr wg fuel g0 p s ⟨8, 0, 0, 0, 4096 + 4 * (j : Int)⟩).2 = true := by simp [stepN, h1]
      rw [if_pos this]
      have e : doneB n fuel at_ other = j := by
        unfold doneB
        have h1 : fuel < n := by omega
        simp only [h1, if_true]
        rw [if_neg]
        · omega
        rintro ⟨h2, h3, h4⟩
        have := hst (hp.2 h3)
        omega
      simp [stepN, e, hs]
    by_cases h2 : s.g = g0
    · have : (stepN wr wg fuel g0 p s ⟨8, 0, 0, 0, 4096 + 4 * (j : Int)⟩).2 = false := by simp [stepN, h1, h2]
      rw [if_neg (by rw [this]; simp)]
      have e1 : (stepN wr wg fuel g0 p s ⟨8, 0, 0, 0, 4096 + 4 * (j : Int)⟩).1 = ⟨4096 + 4 * (j : Int), s.ret, s.g⟩ := by simp [stepN]
      rw [e1]
      have hw := hr (j + 1) (by omega) (by omega)
      by_cases h3 : (j : Int) = at_
      · simp only [h3, if_true, List.singleton_append, List.cons_append, List.nil_append]
        rw [runN, if_neg (by simp [stepN]), runN, if_neg (by simp [stepN])]
        refine ih (j + 1) _ (by omega) (by omega) (by omega) ?_ (fun _ => by omega) ?_
        · simp [stepN, hs, hw]
        · simp only [stepN]
          by_cases h4 : p = 4200
          · simp [h4, h2, hg]; omega
          · simp [h4, h2]
      · simp only [h3, if_false, List.nil_append]
        rw [runN, if_neg (by simp [stepN])]
        refine ih (j + 1) _ (by omega) (by omega) (by omega) ?_ (fun hq => ?_) ?_
        · simp [stepN, hs, hw]
        · have := hst hq
          have h5 := hd.1 h2
          have : ¬ (at_ = j - 1) := fun h => h5 ⟨hq, h⟩
          omega
        · simp [stepN, h2]
          omega
    · have : (stepN wr wg fuel g0 p s ⟨8, 0, 0, 0, 4096 + 4 * (j : Int)⟩).2 = true := by simp [stepN, h2]
      rw [if_pos this]
      have h5 : p = 4200 ∧ at_ = j - 1 := by
        by_cases h : p = 4200 ∧ at_ = j - 1
        · exact h
        · exact absurd (hd.2 h) h2
      have e : doneB n fuel at_ other = j := by
        unfold doneB
        have ho := hp.1 h5.1
        split
        · rw [if_pos ⟨by omega, ho, by omega⟩]; omega
        · rw [if_pos ⟨by omega, ho, by omega⟩]; omega
      simp [stepN, e, hs]
def head (p : Int) : List Nd := [⟨8, 0, 0, 0, 4096⟩, ⟨1, 1, 0, 0, p⟩]
def lst (n : Nat) (at_ p : Int) : List Nd := head p ++ segs at_ 0 n ++ [⟨12, 0, 0, 0, 4096 + 4 * (n : Int)⟩]
theorem list_law {wr wg : Int → Int} (hr : ∀ x, 0 ≤ x → x < 1000 → wr x = x) {fuel at_ p g0 pc : Int} {n : Nat} {other : Bool} (hg : wg (g0 + 1) ≠ g0) (hp : p = 4200 ↔ other = false) (hn1 : 1 ≤ n) (hn : n ≤ 20) (hf : 0 ≤ fuel) (hat : at_ < n) (hat1 : -1 ≤ at_) :
    (runN wr wg fuel g0 p (lst n at_ p) ⟨pc, 0, g0⟩).pc = 4096 + 4 * doneB n fuel at_ other ∧ (runN wr wg fuel g0 p (lst n at_ p) ⟨pc, 0, g0⟩).ret = doneB n fuel at_ other := by
  obtain ⟨k, rfl⟩ : ∃ k, n = k + 1 := ⟨n - 1, by omega⟩
  unfold lst head
  simp only [List.append_assoc, List.singleton_append, List.cons_append, List.nil_append]
  rw [runN]
  by_cases h1 : fuel ≤ 0
  · rw [if_pos (by simp [stepN, h1])]
    have e : doneB (k + 1 : Nat) fuel at_ other = 0 := by
      unfold doneB
      have h2 : fuel < (k + 1 : Nat) := by omega
      simp only [h2, if_true]
      rw [if_neg]
      · omega
      · omega
    simp only [stepN, if_true, e]; simp
  rw [if_neg (by simp [stepN, h1]), runN, if_neg (by simp [stepN])]
  have e1 : (stepN wr wg fuel g0 p (stepN wr wg fuel g0 p ⟨pc, 0, g0⟩ ⟨8, 0, 0, 0, 4096⟩).1 ⟨1, 1, 0, 0, p⟩).1 = ⟨4096, 0, g0⟩ := by simp [stepN]
  rw [e1, segs, seg, if_neg (by omega)]
  have hw := hr 1 (by omega) (by omega)
  simp only [List.append_assoc, List.singleton_append, List.cons_append, List.nil_append]
  by_cases h3 : ((0 : Nat) : Int) = at_
  · simp only [h3, if_true, List.singleton_append, List.cons_append, List.nil_append]
    rw [runN, if_neg (by simp [stepN]), runN, if_neg (by simp [stepN])]
    refine run_law hr (n := (k + 1 : Nat)) (other := other) hg hp (by omega) (by omega) k 1 _ (by omega) (by omega) (by omega) ?_ (fun _ => by omega) ?_
    · simp [stepN, hw]
    · simp only [stepN]
      by_cases h4 : p = 4200
      · simp [h4, hg]; omega
      · simp [h4]
  · simp only [h3, if_false, List.nil_append]
    rw [runN, if_neg (by simp [stepN])]
    refine run_law hr (n := (k + 1 : Nat)) (other := other) hg hp (by omega) (by omega) k 1 _ (by omega) (by omega) (by omega) ?_ (fun _ => by omega) ?_
    · simp [stepN, hw]
    · simp [stepN]
      omega
inductive Kd : Nd → Prop
  | mark (v : Int) (h0 : 0 ≤ v) (h1 : v < 4294967296) : Kd ⟨8, 0, 0, 0, v⟩
  | store : Kd ⟨7, 0, 1, 1, 4⟩
  | done : Kd ⟨9, 0, 0, 0, 0⟩
  | jump (v : Int) (h0 : 0 ≤ v) (h1 : v < 4294967296) (h4 : v % 4 = 0) : Kd ⟨12, 0, 0, 0, v⟩
theorem segs_kd {at_ : Int} : ∀ k j, j + k ≤ 100 → ∀ x ∈ segs at_ j k, Kd x
  | 0, j, _, x, hx => by cases hx
  | k + 1, j, hj, x, hx => by
    rw [segs] at hx
    rcases List.mem_append.1 hx with hx | hx
    · unfold seg at hx
      rcases List.mem_append.1 hx with hx | hx
      · split at hx
        · rw [List.mem_singleton.1 hx]; exact .mark _ (by omega) (by omega)
        · cases hx
      · rcases List.mem_append.1 hx with hx | hx
        · split at hx
          · rw [List.mem_singleton.1 hx]; exact .store
          · cases hx
        · rw [List.mem_singleton.1 hx]; exact .done
    · exact segs_kd k (j + 1) (by omega) x hx
theorem lst_kd {n : Nat} {at_ p : Int} (hn : n ≤ 20) : ∃ r, lst n at_ p = head p ++ r ∧ ∀ x ∈ r, Kd x := by
  refine ⟨segs at_ 0 n ++ [⟨12, 0, 0, 0, 4096 + 4 * (n : Int)⟩], by simp [lst], fun x hx => ?_⟩
  rcases List.mem_append.1 hx with hx | hx
  · exact segs_kd n 0 (by omega) x hx
  · rw [List.mem_singleton.1 hx]; exact .jump _ (by omega) (by omega) (by omega)
theorem segs_len {at_ : Int} : ∀ k j, (segs at_ j k).length ≤ 3 * k
  | 0, j => by simp [segs]
  | k + 1, j => by
    rw [segs, List.length_append]
    have := segs_len (at_ := at_) k (j + 1)
    have h2 : (seg at_ j).length ≤ 3 := by unfold seg; split <;> split <;> simp
    omega
theorem lst_len {n : Nat} {at_ p : Int} (hn : n ≤ 20) : (lst n at_ p).length ≤ 63 := by
  have := segs_len (at_ := at_) n 0
  simp [lst, head]; omega

theorem formed_kd {x : Nd} (h : Kd x) : formedB x = true ∧ tagsB x.op = false ∧ writesB x.op = false ∧ ∀ t ∈ rl x, t = 1 := by
  cases h <;> simp [formedB, valueB, fieldB, hasL, tagsB, writesB, rl, sizedB]
theorem goodRun_kd {th : Int → Bool} (ht : th 1 = true) : ∀ {l : List Nd}, (∀ x ∈ l, Kd x) → goodRun l th = true
  | [], _ => rfl
  | n :: r, h => by
    obtain ⟨h1, h2, h3, h4⟩ := formed_kd (h n (List.mem_cons_self ..))
    rw [goodRun, h1, h2, h3, if_neg (by simp), goodRun_kd ht fun x hx => h x (List.mem_cons_of_mem _ hx)]
    have : ((rl n).any fun t => !th t) = false := by
      rw [List.any_eq_false]
      intro t htm
      rw [h4 t htm, ht]; simp
    rw [this]; rfl
theorem lastOp_app : ∀ {l : List Nd} {x : Nd}, lastOp (l ++ [x]) = x.op
  | [], x => rfl
  | [n], x => rfl
  | _ :: n :: r, x => by
    have := lastOp_app (l := n :: r) (x := x)
    simpa [lastOp] using this
theorem lst_good {n : Nat} {at_ p : Int} (hn : n ≤ 20) : goodB (lst n at_ p) = true := by
  obtain ⟨r, hr, hk⟩ := lst_kd (n := n) (at_ := at_) (p := p) hn
  have hl := lst_len (at_ := at_) (p := p) hn
  have h1 : lastOp (lst n at_ p) = 12 := by unfold lst; rw [lastOp_app]
  have h2 : goodRun (lst n at_ p) (fun _ => false) = true := by
    rw [hr, head]
    simp only [List.cons_append, List.nil_append]
    rw [goodRun, goodRun, goodRun_kd (by simp [put, writesB]) hk]
    simp [formedB, valueB, fieldB, hasL, tagsB, writesB, rl]
  have h3 : ∃ x y, lst n at_ p = x :: y ∧ x.op = 8 := ⟨⟨8, 0, 0, 0, 4096⟩, _, rfl, rfl⟩
  obtain ⟨x, y, h4, h5⟩ := h3
  rw [h4] at h1 h2 hl ⊢
  unfold goodB
  simp only [h1, h2, h5]
  simp only [List.length_cons] at hl
  simp; omega
end Go.Proofs.YtcohcmlidmaaoaaGreat
