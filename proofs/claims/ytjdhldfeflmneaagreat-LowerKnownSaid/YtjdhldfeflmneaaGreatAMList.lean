/-
  Slices over the abstract memory: what is read of a list; a list that grows by append.
-/
import Derived.Test.YtjdhldfeflmneaaGreatAMUse
set_option linter.unusedSimpArgs false
set_option linter.unusedVariables false
namespace Go.Proofs.YtjdhldfeflmneaaGreat.AM

section
variable {P : Program} {α : Type} {enc : α → List Value} {sz : Nat}

/-- v is a slice of the elements l, as h stands. -/
def Sl (enc : α → List Value) (sz : Nat) (h : H) (v : Value) (l : List α) : Prop :=
  (∀ x ∈ l, (enc x).length = sz) ∧ ((l = [] ∧ v = .slice none 0 0) ∨ ∃ b o c, v = .slice (some ⟨b, o, none⟩) l.length c ∧ (l ≠ [] → cellsAt h b o (l.length * sz) = some (l.flatMap enc)))
theorem Sl.mono {h h' : H} {v : Value} {l : List α} (hs : Sub h h') (hl : Sl enc sz h v l) : Sl enc sz h' v l := by
  obtain ⟨hz, ⟨h1, h2⟩ | ⟨b, o, c, h1, h2⟩⟩ := hl
  · exact ⟨hz, .inl ⟨h1, h2⟩⟩
  · exact ⟨hz, .inr ⟨b, o, c, h1, fun hn => hs.cellsAt (h2 hn)⟩⟩
theorem Sl.len {h : H} {v : Value} {l : List α} (hl : Sl enc sz h v l) {K : Value → Prop} : o_lenSl v K = K (.int .i64 l.length) := by
  obtain ⟨_, ⟨rfl, rfl⟩ | ⟨b, o, c, rfl, _⟩⟩ := hl <;> rfl
theorem Sl.box {h : H} {v : Value} {l : List α} (hl : Sl enc sz h v l) : boxV v = true := by
  obtain ⟨_, ⟨rfl, rfl⟩ | ⟨b, o, c, rfl, _⟩⟩ := hl <;> rfl
theorem Sl.srcLen {h : H} {v : Value} {l : List α} (hl : Sl enc sz h v l) : srcLen v = some l.length := by
  obtain ⟨_, ⟨rfl, rfl⟩ | ⟨b, o, c, rfl, _⟩⟩ := hl <;> rfl

theorem flat_length : ∀ {l : List α}, (∀ x ∈ l, (enc x).length = sz) → (l.flatMap enc).length = l.length * sz
  | [], _ => by simp
  | x :: l, h => by
    rw [List.flatMap_cons, List.length_append, h x (List.mem_cons_self ..), flat_length fun y hy => h y (List.mem_cons_of_mem _ hy)]
    simp [Nat.add_mul, Nat.add_comm]
theorem flat_at : ∀ {l : List α} (i : Nat) (hi : i < l.length), (∀ x ∈ l, (enc x).length = sz) → ((l.flatMap enc).drop (i * sz)).take sz = enc l[i]
  | x :: l, 0, _, h => by
    have := h x (List.mem_cons_self ..)
    simp [List.flatMap_cons, ← this]
  | x :: l, i + 1, hi, h => by
    have hx := h x (List.mem_cons_self ..)
    rw [List.flatMap_cons, Nat.add_mul, Nat.one_mul, Nat.add_comm, ← List.drop_drop, List.drop_left' hx]
    exact flat_at i (by simpa using hi) fun y hy => h y (List.mem_cons_of_mem _ hy)
theorem cellsAt_part {h : H} {b o n m k : Nat} {cs : List Value} (hc : cellsAt h b o n = some cs) (hk : m + k ≤ n) : cellsAt h b (o + m) k = some ((cs.drop m).take k) := by
  unfold AM.cellsAt at *
  cases hb : h b with
  | none => rw [hb] at hc; cases hc
  | some q =>
    rw [hb] at hc
    cases q <;> try (cases hc)
    rename_i cs' E m'
    simp only at hc ⊢
    by_cases hl : o + n ≤ cs'.length
    · simp only [hl, if_true] at hc
      have : o + m + k ≤ cs'.length := by omega
      simp only [this, if_true]
      cases hc
      rw [List.drop_take, List.drop_drop, List.take_take]
      congr 2
      omega
    · simp [hl] at hc
theorem cellAt_part {h : H} {b o n m : Nat} {cs : List Value} (hc : cellsAt h b o n = some cs) (hk : m < n) : cellAt h b (o + m) = cs[m]? := by
  unfold AM.cellsAt at hc
  unfold AM.cellAt
  cases hb : h b with
  | none => rw [hb] at hc; cases hc
  | some q =>
    rw [hb] at hc
    cases q <;> try (cases hc)
    rename_i cs' E m'
    simp only at hc ⊢
    by_cases hl : o + n ≤ cs'.length
    · simp only [hl, if_true] at hc
      cases hc
      rw [List.getElem?_take_of_lt hk, List.getElem?_drop]
    · simp [hl] at hc
theorem Sl.src {h : H} {v : Value} {l : List α} (hl : Sl enc sz h v l) : srcCells sz h v l.length = some (l.flatMap enc) := by
  obtain ⟨_, ⟨rfl, rfl⟩ | ⟨b, o, c, rfl, hb⟩⟩ := hl
  · rfl
  · unfold srcCells
    by_cases hn : l = []
    · subst hn; rfl
    · have : l.length ≠ 0 := by cases l <;> simp at hn ⊢
      simp only [this, if_false]
      exact hb hn
theorem Sl.at {h : H} {v : Value} {l : List α} (hl : Sl enc sz h v l) {i : Nat} (hi : i < l.length) : ∃ b o, (∀ (k : IntKind) (K : Value → Prop), o_indexAddr none sz v (.int k i) K = K (.pointer (some ⟨b, o, none⟩))) ∧ cellsAt h b o sz = some (enc l[i]) := by
  obtain ⟨hz, ⟨rfl, _⟩ | ⟨b, o, c, rfl, hb⟩⟩ := hl
  · exact absurd hi (by simp)
  have hc := hb (fun he => by rw [he] at hi; simp at hi)
  refine ⟨b, o + i * sz, fun k K => ?_, ?_⟩
  · rw [index_sl (by omega) (by omega)]; simp
  · rw [cellsAt_part hc (m := i * sz) (k := sz)]
    · rw [flat_at i hi hz]
    · have : (i + 1) * sz ≤ l.length * sz := Nat.mul_le_mul_right _ hi
      rw [Nat.add_mul] at this; omega
theorem Sl.nil {h : H} : Sl enc sz h (.slice none 0 0) ([] : List α) := ⟨fun _ h => by simp at h, .inl ⟨rfl, rfl⟩⟩
theorem Sl.nil' {h : H} {b o c : Nat} : Sl enc sz h (.slice (some ⟨b, o, none⟩) 0 c) ([] : List α) := ⟨fun _ h => by simp at h, .inr ⟨b, o, c, rfl, fun h => absurd rfl h⟩⟩
theorem Sl.of_block {h : H} {b o c : Nat} {l : List α} {cs : List Value} {E : TypeId} {m : Own} (hz : ∀ x ∈ l, (enc x).length = sz) (hb : h b = some (.cells cs E m)) (hc : (cs.drop o).take (l.length * sz) = l.flatMap enc) (hl : o + l.length * sz ≤ cs.length) : Sl enc sz h (.slice (some ⟨b, o, none⟩) l.length c) l :=
  ⟨hz, .inr ⟨b, o, c, rfl, fun _ => by rw [cellsAt_of hb hl, hc]⟩⟩

def blockOf : Value → Option Nat
  | .slice (some a) _ _ => some a.block
  | _ => none
/-- A list that this call has made by append alone. -/
def Gr (enc : α → List Value) (sz : Nat) (e : TypeId) (h0 h : H) (v : Value) (l : List α) : Prop :=
  (∀ x ∈ l, (enc x).length = sz) ∧ ((l = [] ∧ v = .slice none 0 0) ∨ ∃ b, l ≠ [] ∧ 2 ≤ b ∧ v = .slice (some ⟨b, 0, none⟩) l.length l.length ∧ h b = some (.cells (l.flatMap enc) e .open) ∧ h0 b = none)
theorem Gr.sl {e : TypeId} {h0 h : H} {v : Value} {l : List α} (hg : Gr enc sz e h0 h v l) : Sl enc sz h v l := by
  obtain ⟨hz, ⟨rfl, rfl⟩ | ⟨b, _, _, rfl, hb, _⟩⟩ := hg
  · exact Sl.nil
  · refine Sl.of_block hz hb ?_ ?_
    · rw [List.drop_zero, ← flat_length hz, List.take_length]
    · rw [flat_length hz]; omega
theorem Gr.empty {e : TypeId} {h0 h : H} : Gr enc sz e h0 h (.slice none 0 0) ([] : List α) := ⟨fun _ h => by simp at h, .inl ⟨rfl, rfl⟩⟩
theorem Gr.there {e : TypeId} {h0 h : H} {v : Value} {l : List α} (hg : Gr enc sz e h0 h v l) {c : Nat} (hc : blockOf v = some c) : h c ≠ Option.none := by
  obtain ⟨_, ⟨_, rfl⟩ | ⟨b, _, _, rfl, hb, _⟩⟩ := hg
  · cases hc
  · cases hc; rw [hb]; simp
theorem Gr.keep {e : TypeId} {h0 h h' : H} {v : Value} {l : List α} (hg : Gr enc sz e h0 h v l) (hk : ∀ b, blockOf v = some b → h' b = h b) : Gr enc sz e h0 h' v l := by
  obtain ⟨hz, ⟨h1, h2⟩ | ⟨b, h1, hb2, rfl, h3, h4⟩⟩ := hg
  · exact ⟨hz, .inl ⟨h1, h2⟩⟩
  · exact ⟨hz, .inr ⟨b, h1, hb2, rfl, by rw [hk b rfl]; exact h3, h4⟩⟩

theorem Gr.isOpen {e : TypeId} {h0 h : H} {v : Value} {l : List α} (hg : Gr enc sz e h0 h v l) {c : Nat} (hc : blockOf v = some c) : h c = some (.cells (l.flatMap enc) e .open) := by
  obtain ⟨_, ⟨_, rfl⟩ | ⟨b, _, _, rfl, hb, _⟩⟩ := hg
  · cases hc
  · cases hc; exact hb
theorem Gr.over {e : TypeId} {h0 h : H} {v : Value} {l : List α} (hg : Gr enc sz e h0 h v l) {c : Nat} {q q' : AObj} (hc : h c = some q) (hq : ∀ cs, q ≠ .cells cs e .open) : Gr enc sz e h0 (upd h c q') v l := by
  refine hg.keep fun b hb => ?_
  refine upd_ne _ _ fun he => ?_
  subst he
  have := Gr.isOpen hg hb
  rw [hc] at this
  cases this
  exact hq _ rfl
theorem Gr.append {e : TypeId} {bytes : Nat} {h0 h : H} {v x : Value} {l m : List α} {K : Value → H → Prop} (hg : Gr enc sz e h0 h v l) (hx : Sl enc sz h x m) (hm : m ≠ []) (hsz : 0 < sz)
    (hb : (l.length + m.length) * bytes ≤ 140737488355328) (hn : l.length + m.length < 9223372036854775808) (hsub : Sub h0 h)
    (hk : ∀ v' h', Gr enc sz e h0 h' v' (l ++ m) → Sub h0 h' → (∀ c o, h c = some o → blockOf v ≠ some c → h' c = some o) → (∀ c, blockOf v' = some c → h c = none) → K v' h') : o_append e sz bytes v x h K := by
  have hm0 : 0 < m.length := by cases m <;> simp at hm ⊢
  have hsl := hx.srcLen
  have hsrc := hx.src
  have hzm := hx.1
  have hlen := flat_length (l := m) hzm
  have hz : ∀ x ∈ l ++ m, (enc x).length = sz := fun y hy => (List.mem_append.1 hy).elim (hg.1 y) (hzm y)
  unfold o_append
  obtain ⟨hzl, ⟨rfl, rfl⟩ | ⟨b, hl0, hb2, rfl, hbb, hb0⟩⟩ := hg
  · simp only [hsl, hsrc]
    have hno : ¬ (0 + m.length ≤ 0) := by omega
    simp only [hno, if_false]
    simp only [List.length_nil, Nat.zero_add] at hb hn ⊢
    refine ⟨hb, hn, hlen, hm0, trivial, fun b' hb2 hbn => ?_⟩
    refine hk _ _ ⟨hz, .inr ⟨b', by simpa using hm, hb2, by simp, by simp [upd], ?_⟩⟩ ?_ ?_ ?_
    · exact hsub.none hbn
    · exact hsub.upd (hsub.none hbn)
    · intro c' o hc _
      have : c' ≠ b' := fun he => by rw [he, hbn] at hc; cases hc
      rw [upd_ne _ _ this]; exact hc
    · intro c' hc; cases hc; exact hbn
  · simp only [hsl, hsrc]
    have hno : ¬ (l.length + m.length ≤ l.length) := by omega
    simp only [hno, if_false]
    have hll := flat_length (l := l) hzl
    have hbz : ¬ b = 0 := by omega
    · refine ⟨hb, hn, hlen, hm0, ?_⟩
      simp only [hbz, if_false, hbb]
      refine ⟨by omega, trivial, by omega, hsz, fun b' hb2' hbn => ?_⟩
      have hbb' : b' ≠ b := fun he => by rw [he, hbb] at hbn; cases hbn
      have hdel : ∀ c, c ≠ b → del h b c = h c := fun c hc => del_ne h hc
      refine hk _ _ ⟨hz, .inr ⟨b', by simp [hl0], hb2', by simp, ?_, hsub.none hbn⟩⟩ ?_ ?_ ?_
      · rw [upd_same, List.drop_zero, ← hll, List.take_length, List.flatMap_append]
      · intro c' o hc
        have h1 : c' ≠ b := fun he => by rw [he, hb0] at hc; cases hc
        have h2 : c' ≠ b' := fun he => by rw [he, hsub.none hbn] at hc; cases hc
        rw [upd_ne _ _ h2, hdel _ h1]; exact hsub _ _ hc
      · intro c' o hc hne
        have h1 : c' ≠ b := fun he => hne (by rw [he]; rfl)
        have h2 : c' ≠ b' := fun he => by rw [he, hbn] at hc; cases hc
        rw [upd_ne _ _ h2, hdel _ h1]; exact hc
      · intro c' hc; cases hc; exact hbn
end
end Go.Proofs.YtjdhldfeflmneaaGreat.AM
