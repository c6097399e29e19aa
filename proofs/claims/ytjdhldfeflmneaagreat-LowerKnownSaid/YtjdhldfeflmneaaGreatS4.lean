/-
  The summary of 'within' stands for the code.
-/
import Derived.Test.YtjdhldfeflmneaaGreatS3
set_option linter.unusedSimpArgs false
set_option linter.unusedVariables false
namespace Go.Proofs.YtjdhldfeflmneaaGreat
open Go.Proofs.YtjdhldfeflmneaaGreat.AM
section
variable {F : H} {ρ : Ren} {n : Nat} {eh : EH} {h : H}
theorem XSim.sub (hs : XSim F ρ n eh h) {h' : H} (hh : Sub h h') : XSim F ρ n eh h' where
  z0 := hs.z0
  z1 := hs.z1
  two := hs.two
  top := hs.top
  n2 := hs.n2
  obj b o hb hd := by
    obtain ⟨b', τ, o', h1, h2, h3⟩ := hs.obj b o hb hd
    exact ⟨b', τ, o', h1, hh _ _ h2, h3⟩
  inj := hs.inj
  fr c o hc := hh _ _ (hs.fr c o hc)
  fsep := hs.fsep
theorem outside_mem {addr last : Nat} {es : List (Value × XA)} {es' : List (Value × Value)} (ha : RM ρ es es') (ho : outside addr last es = true) : ∀ e ∈ es', ∃ k : Nat, e.1 = .int .u32 k ∧ k < 4294967296 ∧ (k < addr ∨ last ≤ k) := by
  obtain ⟨l, ha, hp, hd⟩ := ha
  clear hd
  intro e he
  replace he := hp.mem_iff.2 he
  clear hp
  revert e
  revert ho
  induction ha with
  | nil => intro _ e he; cases he
  | cons h1 h2 ih =>
    rename_i e0 e1 l m
    intro ho e he
    simp only [outside, Bool.and_eq_true] at ho
    obtain ⟨ho1, ho2⟩ := ho
    rcases List.mem_cons.1 he with rfl | he
    · rw [h1.1]
      split at ho1
      · rename_i k hk
        simp only [Bool.and_eq_true, Bool.or_eq_true, blt_iff, ble_iff] at ho1
        exact ⟨k, hk, ho1⟩
      · cases ho1
    · exact ih ho2 e he
theorem mfind_in {es : List (Value × Value)} {e : Value × Value} (he : e ∈ es) (hr : keyEq e.1 e.1 = true) : ∃ v, mfind es e.1 = some v := by
  induction es with
  | nil => cases he
  | cons a l ih =>
    simp only [mfind]
    cases hk : keyEq e.1 a.1
    · rcases List.mem_cons.1 he with rfl | he
      · rw [hr] at hk; cases hk
      · exact ih he
    · exact ⟨_, rfl⟩
theorem filter_lt {l : List Value} {p : Value → Bool} (h : l.any p = true) : (l.filter fun k => !p k).length < l.length := by
  induction l with
  | nil => cases h
  | cons a l ih =>
    simp only [List.any_cons, Bool.or_eq_true] at h
    simp only [List.filter_cons]
    cases hp : p a
    · rw [hp] at h
      simp only [Bool.not_false, if_true, List.length_cons]
      have := ih (by simpa using h)
      omega
    · simp only [Bool.not_true, if_false, List.length_cons]
      exact Nat.lt_succ_of_le (List.length_filter_le _ _)
set_option maxRecDepth 10000 in
theorem within_ok {args : List XA} {r : XV × EH × Nat} (he : s_within args eh n = some r) {args' : List Value} (hs : XSim F ρ n eh h) (ha : All2 (RA ρ) args args') : AM.Spec Tryz.prog 242 args' h (CPost F ρ r) := by
  unfold s_within at he
  split at he
  rotate_left
  · cases he
  rename_i m addr many
  split at he
  rotate_left
  · cases he
  rename_i mb mo hptr
  split at he
  rotate_left
  · cases he
  rename_i pm hc
  split at he
  rotate_left
  · cases he
  rename_i es clk hg
  obtain ⟨hb, he⟩ := bif_some he
  cases he
  simp only [Bool.and_eq_true, blt_iff] at hb
  obtain ⟨⟨ho, hl1⟩, hl2⟩ := hb
  obtain ⟨a1, a2, a3, rfl, h1, h2, h3⟩ := all2_3 ha
  unfold ptrC at hptr
  split at hptr
  rotate_left
  · cases hptr
  cases hptr
  obtain ⟨mb', t, hm, rfl⟩ := h1.toC.ptr
  obtain rfl := h2.toC.self_eq rfl
  obtain rfl := h3.toC.self_eq rfl
  obtain ⟨v', hv', hr⟩ := cell_of hs hm hc
  obtain ⟨pm', t', hl, rfl⟩ := hr.mp
  obtain ⟨es', hmap, hes⟩ := hs.map hg hl
  have hout := outside_mem hes ho
  refine F242_spec _ _ _ _ _ ?_
  unfold F242 F242_0 F242_1 F242_2
  simp only [nil_ptr, field_addr, load_cell hv']
  unfold o_range
  simp only [hmap]
  intro b hb2 hbn
  have hne : pm' ≠ b := fun e => by rw [e, hbn] at hmap; cases hmap
  unfold F242_3 F242_4
  refine ⟨fun m s h' => ∃ left cur, s = (.int .u32 addr, .int .u64 many, .slice none 0 0, .pointer (some ⟨b, 0, none⟩)) ∧ h' = AM.upd h b (.iter (some pm') left clk cur) ∧ m = left.length, ⟨_, _, _, rfl, rfl, rfl⟩, ?_⟩
  rintro m s h' ⟨left, cur, rfl, rfl, rfl⟩
  have hmapU : ∀ o, AM.upd h b o pm' = some (.map (.int .u32) es' clk) := fun o => by rw [upd_ne _ _ hne]; exact hmap
  have hrefl : ∀ e ∈ es', keyEq e.1 e.1 = true := fun e he => by
    obtain ⟨k, hk, _⟩ := hout e he
    rw [hk]; simp [keyEq]
  unfold F242_5 o_next
  simp only [upd_same, hmapU]
  refine ⟨trivial, fun e hem hany => ?_, fun _ => ?_⟩
  · obtain ⟨k, hk, hkl, hkk⟩ := hout e hem
    obtain ⟨v, hv⟩ := mfind_in hem (hrefl e hem)
    rw [ex0', if_true']
    unfold o_entry
    have hupd2 : ∀ o o', AM.upd (AM.upd h b o) b o' = AM.upd h b o' := fun o o' => by
      funext c; unfold AM.upd; split <;> rfl
    rw [hupd2]
    simp only [upd_same, hmapU, hv]
    refine ⟨trivial, ?_⟩
    rw [ex0, hk, bin_geq]
    have hlt := filter_lt hany
    rw [hk] at hlt
    by_cases hka : addr ≤ k
    · have d1 : decide ((addr : Int) ≤ (k : Int)) = true := by simp; omega
      rw [d1, guard_tt]
      have u64 : ∀ {x : Int}, 0 ≤ x → x < 18446744073709551616 → IntKind.u64.wrap x = x := fun {x} h1 h2 => by
        refine wrap_id ?_ ?_ <;> simp [IntKind.min, IntKind.max, IntKind.signed, IntKind.bits] <;> omega
      rw [conv_int, u64 (by omega) (by omega)]
      simp only [conv_int]
      rw [u64 (x := (addr : Int)) (by omega) (by omega), bin_mul]
      rw [u64 (x := (many : Int) * 256) (by omega) (by omega), bin_add]
      rw [u64 (x := (addr : Int) + (many : Int) * 256) (by omega) (by omega), bin_lss]
      have d2 : decide ((k : Int) < (addr : Int) + (many : Int) * 256) = false := by simp; omega
      rw [d2, pick_true, if_false']
      exact ⟨_, hlt, _, _, trivial, rfl, rfl⟩
    · have d1 : decide ((addr : Int) ≤ (k : Int)) = false := by simp; omega
      rw [d1, guard_ft, pick_false, if_false']
      exact ⟨_, hlt, _, _, trivial, rfl, rfl⟩
  · rw [extract_tuple (v := .bool false) rfl, if_false']
    unfold F242_6
    exact ⟨ρ, Ren.le_refl ρ, XSim.sub hs (Sub.new hbn), .a (.c (.of_self rfl))⟩
end
end Go.Proofs.YtjdhldfeflmneaaGreat
