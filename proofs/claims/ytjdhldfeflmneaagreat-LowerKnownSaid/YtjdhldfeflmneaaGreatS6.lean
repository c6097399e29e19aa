/-
  A summary of 'bump', and that it stands for the code.
-/
import Derived.Test.YtjdhldfeflmneaaGreatS5
set_option linter.unusedSimpArgs false
set_option linter.unusedVariables false
namespace Go.Proofs.YtjdhldfeflmneaaGreat.AM
noncomputable section
/-- Has none a base, among the numbers of changes? -/
def p_none (r : R) (go cnt base : Nat) : Nat → Nat → Bool
  | 0, _ => false
  | f + 1, k => bif Nat.blt k cnt then (match r.get (go + 2 * k) with
    | some (.int .u32 (.ofNat x)) => bif Nat.beq x base then false else p_none r go cnt base f (k + 1)
    | _ => false) else true
def s_bump_new (P : Program) (mb mo base : Nat) (eh : EH) (n : Nat) : Res :=
  match e_buildSlice P 180 0 [] eh n with
  | some (.a v41, eh1, n1) => (match cellE eh1 mb (mo + 2) with
    | some sl => (match e_append 340 2 8 v41 (.c sl) eh1 n1 with
      | some (.a v46, eh2, n2) => (match e_build P 340 [(0, .c (.int .u32 (.ofNat base))), (1, .c (.int .u32 1))] with
        | some (.a v48) => (match e_buildSlice P 180 1 [(0, v48)] eh2 n2 with
          | some (.a v49, eh3, n3) => (match e_append 340 2 8 v46 v49 eh3 n3 with
            | some (.a v50, eh4, n4) => (match e_store 1 (.c (.pointer (some ⟨mb, mo + 2, none⟩))) v50 eh4 with
              | some eh5 => some (.tup [], eh5, n4)
              | none => none)
            | _ => none)
          | _ => none)
        | _ => none)
      | _ => none)
    | none => none)
  | _ => none
def s_bump (P : Program) (args : List XA) (eh : EH) (n : Nat) : Res :=
  match args with
  | [m, .c (.int .u32 (.ofNat a))] => (match ptrC m with
    | some (mb, mo) => (match p_gen ⟨mb, mo, mb, 0, 0⟩ eh a with
      | some eh' => some (.tup [], eh', n)
      | none => (match cellE eh mb (mo + 2) with
        | some (.slice (some ⟨gb, go, none⟩) cnt cap) => (match eh.get gb with
          | some (.cells r _ _) => bif p_none r go cnt (Nat.sub a (Nat.mod a 256)) 5000 0 && Nat.blt cnt 1000000 && Nat.blt a 4294967296 then s_bump_new P mb mo (Nat.sub a (Nat.mod a 256)) eh n else none
          | _ => none)
        | _ => none))
    | none => none)
  | _ => none
end
end Go.Proofs.YtjdhldfeflmneaaGreat.AM
namespace Go.Proofs.YtjdhldfeflmneaaGreat
open Go.Proofs.YtjdhldfeflmneaaGreat.AM
section
variable {F : H} {ρ : Ren} {n : Nat} {eh : EH} {h : H}
theorem RV.toA {x : XA} {v : Value} (h : RV ρ (.a x) v) : RA ρ x v := by cases h; assumption
theorem all2_2 {α β : Type} {R : α → β → Prop} {a b : α} {l : List β} (h : All2 R [a, b] l) : ∃ x y, l = [x, y] ∧ R a x ∧ R b y := by
  cases h with | cons h1 h => cases h with | cons h2 h => cases h; exact ⟨_, _, rfl, h1, h2⟩
set_option maxRecDepth 100000 in
theorem bump_new_ok {mb mb' mo base : Nat} {t : LObj} {r : XV × EH × Nat} (hs : XSim F ρ n eh h) (hm : ρ mb = some (mb', t)) (he : s_bump_new Tryz.prog mb mo base eh n = some r) {Kn Kr : H → Prop}
    (hk : ∀ ρ' h', ρ.le ρ' → XSim F ρ' r.2.2 r.2.1 h' → RV ρ' r.1 (.tuple #[]) → Kn h') : F176_6 (.pointer (some ⟨mb', mo, none⟩)) (.int .u32 (base : Nat)) h Kn Kr := by
  unfold s_bump_new at he
  split at he
  rotate_left
  · cases he
  rename_i v41 eh1 n1 h1
  split at he
  rotate_left
  · cases he
  rename_i sl hsl
  split at he
  rotate_left
  · cases he
  rename_i v46 eh2 n2 h2
  split at he
  rotate_left
  · cases he
  rename_i v48 h3
  split at he
  rotate_left
  · cases he
  rename_i v49 eh3 n3 h4
  split at he
  rotate_left
  · cases he
  rename_i v50 eh4 n4 h5
  split at he
  rotate_left
  · cases he
  rename_i eh5 h6
  cases he
  unfold F176_6
  refine e_buildSlice_ok (ps := []) hs .nil h1 fun ρ1 u41 g1 le1 hs1 hv1 => ?_
  obtain ⟨w, hw, hrw⟩ := cell_of hs1 (le1 _ _ hm) hsl
  simp only [nil_ptr, field_addr, load_cell hw]
  refine e_append_ok hs1 (RV.toA hv1) (.c hrw) h2 fun ρ2 u46 g2 le2 hs2 hv2 => ?_
  refine e_build_ok (ρ := ρ2) (ps := [(0, .c (.int .u32 (.ofNat base))), (1, .c (.int .u32 1))]) (.cons ⟨rfl, .c (.of_self rfl)⟩ (.cons ⟨rfl, .c (.of_self rfl)⟩ .nil)) h3 fun u48 hv3 => ?_
  refine e_buildSlice_ok (ps := [(0, v48)]) hs2 (.cons ⟨rfl, RV.toA hv3⟩ .nil) h4 fun ρ3 u49 g3 le3 hs3 hv4 => ?_
  refine e_append_ok hs3 ((RV.toA hv2).mono le3) (RV.toA hv4) h5 fun ρ4 u50 g4 le4 hs4 hv5 => ?_
  have le : ρ.le ρ4 := Ren.le_trans le1 (Ren.le_trans le2 (Ren.le_trans le3 le4))
  refine e_store_ok (x := .c (.pointer (some ⟨mb, mo + 2, none⟩))) hs4 (.c (.s (.ptr (le _ _ hm)))) (RV.toA hv5) h6 fun g5 hs5 => ?_
  exact hk ρ4 g5 le hs5 (.tup .nil)
set_option maxRecDepth 10000 in
/-- The summary of 'bump' stands for the code. -/
theorem bump_sum_ok {args : List XA} {r : XV × EH × Nat} (he : s_bump Tryz.prog args eh n = some r) {args' : List Value} (hs : XSim F ρ n eh h) (ha : All2 (RA ρ) args args') : AM.Spec Tryz.prog 176 args' h (CPost F ρ r) := by
  unfold s_bump at he
  split at he
  rotate_left
  · cases he
  rename_i m a
  split at he
  rotate_left
  · cases he
  rename_i mb mo hptr
  obtain ⟨a1, a2, rfl, h1, h2⟩ := all2_2 ha
  unfold ptrC at hptr
  split at hptr
  rotate_left
  · cases hptr
  cases hptr
  obtain ⟨mb', t, hm, rfl⟩ := h1.toC.ptr
  obtain rfl := h2.toC.self_eq rfl
  refine F176_spec _ _ _ _ ?_
  split at he
  · rename_i eh' hg
    cases he
    exact bump_ok (p := ⟨mb, mo, mb, 0, 0⟩) hs hm hg fun h' hs' => ⟨ρ, Ren.le_refl ρ, hs', .tup .nil⟩
  · split at he
    rotate_left
    · cases he
    rename_i gb go cnt cap hc
    split at he
    rotate_left
    · cases he
    rename_i rr E w hg
    obtain ⟨hb, he⟩ := bif_some he
    simp only [Bool.and_eq_true, blt_iff] at hb
    obtain ⟨⟨hf, hcnt⟩, hal⟩ := hb
    obtain ⟨v', hv, hr⟩ := cell_of hs hm hc
    obtain ⟨gb', t', hl, rfl⟩ := hr.sl
    change p_none rr go cnt (a - a % 256) 5000 0 = true at hf
    change s_bump_new Tryz.prog mb mo (a - a % 256) eh n = some r at he
    unfold F176 F176_0
    show o_bin Tryz.prog .rem 27 (.int .u32 (a : Int)) (.int .u32 256) _
    rw [bin_rem (by decide)]
    show o_bin Tryz.prog .sub 27 (.int .u32 (a : Int)) _ _
    rw [bin_sub, base_eq hal]
    generalize a - a % 256 = base at *
    unfold F176_1 F176_2 F176_3 F176_4
    refine ⟨fun m s h2 => h2 = h ∧ ∃ j : Nat, s = (.pointer (some ⟨mb', mo, none⟩), .int .u32 base, .int .i64 j) ∧ j ≤ cnt ∧ p_none rr go cnt base m j = true, ⟨5000, rfl, 0, rfl, Nat.zero_le _, hf⟩, ?_⟩
    rintro m s h2 ⟨rfl, j, rfl, hjc, hj⟩
    cases m with
    | zero => cases hj
    | succ m =>
      simp only [p_none] at hj
      unfold F176_5
      simp only [nil_ptr, field_addr, load_cell hv, len_sl, bin_lss]
      cases hb : Nat.blt j cnt
      · have := blt_false.1 hb
        have d1 : decide ((j : Int) < (cnt : Int)) = false := by simp; omega
        rw [d1, if_false']
        exact bump_new_ok hs hm he fun ρ' h' le hs' hv' => ⟨ρ', le, hs', hv'⟩
      · rw [hb, cond_true] at hj
        have hjc := blt_iff.1 hb
        split at hj
        rotate_left
        · cases hj
        rename_i y hy
        have hcell := cellI_of hs hl hg hy
        have d1 : decide ((j : Int) < (cnt : Int)) = true := by simp; omega
        have e1 : go + (j : Int).toNat * 2 + 0 = go + 2 * j := by simp; omega
        rw [d1, if_true', index_sl (show (0 : Int) ≤ (j : Int) by omega) (show (j : Int) < (cnt : Int) by omega), field_addr, e1, load_cell hcell, bin_eql]
        cases hb2 : Nat.beq y base
        · rw [hb2, cond_false] at hj
          have d2 : decide (Int.ofNat y = (base : Int)) = false := by
            have : y ≠ base := fun e => by rw [e, Nat.beq_refl] at hb2; cases hb2
            simp; omega
          rw [d2, if_false', bin_add]
          have e2 : IntKind.i64.wrap ((j : Int) + 1) = ((j + 1 : Nat) : Int) := by rw [wrap64 (by omega) (by omega)]; omega
          rw [e2]
          exact ⟨m, Nat.lt_succ_self m, trivial, j + 1, rfl, hjc, hj⟩
        · rw [hb2, cond_true] at hj; cases hj
end
end Go.Proofs.YtjdhldfeflmneaaGreat
