/-
  The executor over this program, with a summary of 'bump' besides.
-/
import Derived.Test.YtjdhldfeflmneaaGreatE1
import Derived.Test.YtjdhldfeflmneaaGreatS6
set_option linter.unusedVariables false
namespace Go.Proofs.YtjdhldfeflmneaaGreat
open Go.Proofs.YtjdhldfeflmneaaGreat.AM
noncomputable section
def SC (P : Program) (M : Nat → Nat) : CallF := fun g args eh n => bc (Nat.beq g 176) (s_bump P args eh n) (SB P M g args eh n)
theorem SC_ok (M : Nat → Nat) : CallOk Tryz.prog (SC Tryz.prog M) := by
  intro f args eh n r he F ρ h args' hs ha
  unfold SC at he
  cases h1 : Nat.beq f 176
  · rw [h1, bc_false] at he
    exact SB_ok M f args eh n r he F ρ h args' hs ha
  · rw [h1, bc_true] at he
    obtain rfl := Nat.eq_of_beq_eq_true h1
    exact bump_sum_ok he hs ha
def runC (f : Nat) : Res := runE Tryz.prog (SC Tryz.prog (nthN masks)) (nthN masks) 100000 f
theorem spec_c {f : Nat} (he : okT (runC f) = true) (h : H) : AM.Spec Tryz.prog f [] h fun v h' => v = .bool true ∧ Sub h h' := spec_true mixed (SC_ok _) he h
/-- A call by the executor with these summaries. -/
def callS (P : Program) (S : CallF) (M : Nat → Nat) : CallF := k_call P S M (kev P S M 100000)
theorem callS_ok {S : CallF} (hS : CallOk Tryz.prog S) (M : Nat → Nat) : CallOk Tryz.prog (callS Tryz.prog S M) := by
  unfold callS
  rw [kev_eq, k_call_eq]
  exact xcall_ok mixed hS (ev_ok mixed hS 100000)
def CC : CallF := callS Tryz.prog (SC Tryz.prog (nthN masks)) (nthN masks)
theorem CC_ok : CallOk Tryz.prog CC := callS_ok (SC_ok _) _
/-- A function without arguments of which it is known that it answers true, beside other summaries. -/
def ST (g : Nat) (S : CallF) : CallF := fun f args eh n => bc (Nat.beq f g) (match args with | [] => some (.a (.c (.bool true)), eh, n) | _ => none) (S f args eh n)
theorem ST_ok {g : Nat} {S : CallF} (hS : CallOk Tryz.prog S) (hg : ∀ h, AM.Spec Tryz.prog g [] h fun v h' => v = .bool true ∧ Sub h h') : CallOk Tryz.prog (ST g S) := by
  intro f args eh n r he F ρ h args' hs ha
  unfold ST at he
  cases h1 : Nat.beq f g
  · rw [h1, bc_false] at he
    exact hS f args eh n r he F ρ h args' hs ha
  · rw [h1, bc_true] at he
    obtain rfl := Nat.eq_of_beq_eq_true h1
    cases args with
    | cons a l => cases he
    | nil =>
      cases he
      cases ha
      refine (hg h).mono ?_
      rintro v h' ⟨rfl, hsub⟩
      exact ⟨ρ, Ren.le_refl ρ, XSim.sub hs hsub, .a (.c (.of_self rfl))⟩
end
end Go.Proofs.YtjdhldfeflmneaaGreat
