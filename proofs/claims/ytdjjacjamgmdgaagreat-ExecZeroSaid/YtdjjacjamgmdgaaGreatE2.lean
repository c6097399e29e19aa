/-
  The executor over this program, with a summary of 'bump' besides.
-/
import Derived.Test.YtdjjacjamgmdgaaGreatE1
import Derived.Test.YtdjjacjamgmdgaaGreatS6
set_option linter.unusedVariables false
namespace Go.Proofs.YtdjjacjamgmdgaaGreat
open Go.Proofs.YtdjjacjamgmdgaaGreat.AM
noncomputable section
def SC (P : Program) (M : Nat → Nat) : CallF := fun g args eh n => bc (Nat.beq g 89) (s_bump P args eh n) (SB P M g args eh n)
theorem SC_ok (M : Nat → Nat) : CallOk Tryz.prog (SC Tryz.prog M) := by
  intro f args eh n r he F ρ h args' hs ha
  unfold SC at he
  cases h1 : Nat.beq f 89
  · rw [h1, bc_false] at he
    exact SB_ok M f args eh n r he F ρ h args' hs ha
  · rw [h1, bc_true] at he
    obtain rfl := Nat.eq_of_beq_eq_true h1
    exact bump_sum_ok he hs ha
def runC (f : Nat) : Res := runE Tryz.prog (SC Tryz.prog (nthN masks)) (nthN masks) 100000 f
theorem spec_c {f : Nat} (he : okT (runC f) = true) (h : H) : AM.Spec Tryz.prog f [] h fun v h' => v = .bool true ∧ Sub h h' := spec_true mixed (SC_ok _) he h
/-- A function without arguments of which it is known that it answers true, beside other summaries. -/
def ST (g : Nat) (S : CallF) : CallF := fun f args eh n => bc (Nat.beq f g) (match args with | [] => some (.a (.c (.bool true)), eh, n) | _ => none) (S f args eh n)
theorem ST_ok {g : Nat} {S : CallF} (hS : CallOk Tryz.prog S) (hg : ∀ h, AM.Spec Tryz.prog g [] h fun v h' => v = .bool true ∧ Sub h h') : CallOk Tryz.prog (ST g S) := by
  intro f args eh n r he F ρ h args' hs ha
  unfold ST at he
  cases h1 : Nat.beq f g
  · rw [h1, bc_false] at he
    exact hS f args eh n r he F ρ h args' hs ha
  · rw [h1, bc_true] at he
    obtain rfl := Nat.eq_of_beq_eq_true h1
    cases args with
    | cons a l => cases he
    | nil =>
      cases he
      cases ha
      refine (hg h).mono ?_
      rintro v h' ⟨rfl, hsub⟩
      exact ⟨ρ, Ren.le_refl ρ, XSim.sub hs hsub, .a (.c (.of_self rfl))⟩
end
end Go.Proofs.YtdjjacjamgmdgaaGreat
