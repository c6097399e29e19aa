/-
  A function with arguments, its own code run by the executor, from a given memory: it answers true.
-/
import Derived.Test.YtbmfblmebhobiaaGreatX11
set_option linter.unusedSimpArgs false
set_option linter.unusedVariables false
namespace Go.Proofs.YtbmfblmebhobiaaGreat.AM
section
variable {P : Program} {f : Nat} {ty : TypeId} {m : Nat} {ps : Array (Nat × Operand)}
noncomputable def runEWA (P : Program) (S : CallF) (M : Nat → Nat) (g : Oper → Oper) (pl : List (Nat × Nat)) (fuel f : Nat) (args : List XA) (eh : EH) (n : Nat) : Res :=
  xcall P S M (runW P (k_call P S M (kev P S M fuel)) (fun _ _ _ _ => none) (kev P S M fuel) g pl 40) f args eh n
theorem spec_trueWA (hm : P.follows .mixedOrders = true) {S : CallF} {M : Nat → Nat} (hS : CallOk P S) {fuel g : Nat} {pl : List (Nat × Nat)} (hl : IsLit P f ty m ps) {args : List XA} {eh : EH} {n : Nat}
    (he : okT (runEWA P S M (litOf f ty m ps) pl fuel g args eh n) = true) {F : H} {ρ : Ren} {h : H} {args' : List Value} (hs : XSim F ρ n eh h) (ha : All2 (RA ρ) args args') : Spec P g args' h fun v h' => v = .bool true := by
  obtain ⟨eh', n', hr⟩ := okT_some he
  unfold runEWA at hr
  rw [kev_eq, k_call_eq] at hr
  have hR := ev_ok hm hS (M := M) fuel
  refine (xcall_ok hm hS (runW_ok (xcall_ok hm hS hR) noY hR hl pl 40) g args eh n _ hr F ρ h args' hs ha).mono ?_
  rintro v h' ⟨ρ', _, hs, hv⟩
  cases hv with | a hv => exact hv.toC.self_eq rfl
end
end Go.Proofs.YtbmfblmebhobiaaGreat.AM
