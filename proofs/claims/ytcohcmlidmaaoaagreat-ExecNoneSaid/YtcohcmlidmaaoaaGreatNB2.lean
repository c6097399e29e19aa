/-
  What mem2 comes to: the pages that the document's own memory has.
-/
import Derived.Test.YtcohcmlidmaaoaaGreatNB
import Derived.Test.YtcohcmlidmaaoaaGreatSM
import Derived.KernelRfl
set_option linter.unusedVariables false
set_option linter.unusedSimpArgs false
set_option maxRecDepth 100000
namespace Go.Proofs.YtcohcmlidmaaoaaGreat
open Go.Proofs.YtcohcmlidmaaoaaGreat.AM
noncomputable section
def eqV1 : Value → Value → Bool
  | .int k a, .int k' b => k == k' && a == b
  | _, _ => false
def eqVs : List Value → List Value → Bool
  | [], [] => true
  | a :: l, b :: m => bc (eqV1 a b) (eqVs l m) false
  | _, _ => false
theorem eqVs_eq : ∀ {l m : List Value}, eqVs l m = true → l = m ∧ ∀ v ∈ l, selfC v = true
  | [], [], _ => ⟨rfl, fun _ h => by cases h⟩
  | a :: l, b :: m, h => by
    simp only [eqVs] at h
    cases h1 : eqV1 a b
    · rw [h1] at h; cases h
    · rw [h1, bc_true] at h
      obtain ⟨rfl, h2⟩ := eqVs_eq h
      unfold eqV1 at h1
      split at h1
      · rename_i k x k' y
        simp only [Bool.and_eq_true, beq_iff_eq] at h1
        obtain ⟨rfl, rfl⟩ := h1
        exact ⟨rfl, fun v hv => by
          rcases List.mem_cons.1 hv with rfl | hv
          · rfl
          · exact h2 v hv⟩
      · cases h1
  | [], _ :: _, h => by cases h
  | _ :: _, [], h => by cases h
def chunk : Nat → List Value → List (List Value)
  | 0, _ => []
  | k + 1, l => l.take 258 :: chunk k (l.drop 258)
theorem chunk_flat : ∀ (k : Nat) (l : List Value), l.length = k * 258 → (chunk k l).flatMap (fun x => x) = l ∧ (chunk k l).length = k ∧ ∀ x ∈ chunk k l, x.length = 258
  | 0, l, h => by
    have : l = [] := List.length_eq_zero_iff.1 (by omega)
    subst this
    exact ⟨rfl, rfl, fun _ h => by cases h⟩
  | k + 1, l, h => by
    obtain ⟨h1, h2, h3⟩ := chunk_flat k (l.drop 258) (by rw [List.length_drop]; omega)
    refine ⟨?_, by simp [chunk, h2], fun x hx => ?_⟩
    · simp only [chunk, List.flatMap_cons, h1, List.take_append_drop]
    · rcases List.mem_cons.1 hx with rfl | hx
      · rw [List.length_take]; omega
      · exact h3 x hx
def r300 : List Value := match eB.get 300 with | some (.cells r _ _) => r.toL | _ => []
def pgL : List (List Value) := chunk 22 r300
def mem2Run : Res := CN 26 [.c (Pt 62 0), .c (I .i64 1)] eB 305
theorem f_mem_base : (match mem2Run with | some (_, eh1, _) => some (namesB.map fun b => eh1.get b) | none => none) = some objsB := by kernel_rfl
theorem f_mem_pages : (match mem2Run with
  | some (.a (.c (.pointer (some ⟨b, 0, none⟩))), eh1, _) => (match eh1.get b with
    | some (.cells rb _ _) => (match rb.get 1 with
      | some (.slice (some ⟨bL, 0, none⟩) 22 _) => (match eh1.get bL with
        | some (.cells rL _ _) => eqVs (rL.toL.take 5676) r300
        | _ => false)
      | _ => false)
    | _ => false)
  | _ => false) = true := by kernel_rfl
theorem f_pg_len : Nat.beq r300.length 5676 = true := by kernel_rfl
def isPg : List Value → Bool
  | .int .u32 _ :: .int .i64 _ :: bs => Nat.beq bs.length 256 && bs.all fun v => match v with | .int .u8 _ => true | _ => false
  | _ => false
theorem f_pg_shape : pgL.all isPg = true := by kernel_rfl
theorem pgL_ok : pgs pgL := by
  intro x hx
  have h := List.all_eq_true.1 f_pg_shape x hx
  unfold isPg at h
  split at h
  · rename_i a p bs
    simp only [Bool.and_eq_true, List.all_eq_true] at h
    have hb : ∀ v ∈ bs, ∃ x : Int, v = .int .u8 x := fun v hv => by
      have := h.2 v hv
      split at this
      · exact ⟨_, rfl⟩
      · cases this
    exact ⟨pg_self hb, pg_rOk hb (Nat.eq_of_beq_eq_true h.1)⟩
  · cases h
end
end Go.Proofs.YtcohcmlidmaaoaaGreat
