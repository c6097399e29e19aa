/-
  A function run by the executor from nothing: its contract.
-/
import Derived.Test.YtjdhldfeflmneaaGreatX6
import Derived.Test.YtjdhldfeflmneaaGreatAMStart
set_option linter.unusedSimpArgs false
set_option linter.unusedVariables false
namespace Go.Proofs.YtjdhldfeflmneaaGreat.AM
section
variable {P : Program}
def ρ0 : Ren := fun b => if b = 0 then some (0, undefT) else if b = 1 then some (1, undefT) else none
theorem XSim.start (h : H) : XSim h ρ0 2 .nil h where
  z0 := ⟨undefT, rfl⟩
  z1 := ⟨undefT, rfl⟩
  two b b' t hb he := by
    unfold ρ0 at he
    rw [if_neg (by omega), if_neg (by omega)] at he
    cases he
  top b hb := by
    unfold ρ0
    rw [if_neg (by omega), if_neg (by omega)]
  n2 := Nat.le_refl 2
  obj b o hb _ := by rw [Tr.get_nil] at hb; cases hb
  inj b c o o' x t t' hb := by rw [Tr.get_nil] at hb; cases hb
  fr c o hc := hc
  fsep b o x t hb := by rw [Tr.get_nil] at hb; cases hb
/-- The executor's answer is 'true'. -/
def isTrueR : Res → Nat
  | some (.a (.c (.bool true)), _, n) => n
  | some _ => 1
  | none => 0
def okT (r : Res) : Bool := Nat.blt 1 (isTrueR r)
theorem okT_some {r : Res} (h : okT r = true) : ∃ eh n, r = some (.a (.c (.bool true)), eh, n) := by
  unfold okT isTrueR at h
  split at h
  · exact ⟨_, _, rfl⟩
  · cases h
  · cases h
noncomputable def runE (P : Program) (S : CallF) (M : Nat → Nat) (fuel f : Nat) : Res := k_call P S M (kev P S M fuel) f [] .nil 2
/-- A function that the executor finds true, at arguments without addresses. -/
noncomputable def runEA (P : Program) (S : CallF) (M : Nat → Nat) (fuel f : Nat) (args : List XA) : Res := k_call P S M (kev P S M fuel) f args .nil 2
theorem spec_trueA (hm : P.follows .mixedOrders = true) {S : CallF} {M : Nat → Nat} (hS : CallOk P S) {fuel f : Nat} {args : List XA} {args' : List Value} (he : okT (runEA P S M fuel f args) = true) (ha : All2 (RA ρ0) args args') (h : H) : Spec P f args' h fun v h' => v = .bool true ∧ Sub h h' := by
  obtain ⟨eh, n, hr⟩ := okT_some he
  unfold runEA at hr
  rw [kev_eq, k_call_eq] at hr
  refine (xcall_ok hm hS (ev_ok hm hS fuel) f args .nil 2 _ hr h ρ0 h args' (XSim.start h) ha).mono ?_
  rintro v h' ⟨ρ', _, hs, hv⟩
  refine ⟨?_, fun b o hb => hs.fr b o hb⟩
  cases hv with | a hv => exact hv.toC.self_eq rfl
/-- A function without arguments that the executor finds true. -/
theorem spec_true (hm : P.follows .mixedOrders = true) {S : CallF} {M : Nat → Nat} (hS : CallOk P S) {fuel f : Nat} (he : okT (runE P S M fuel f) = true) (h : H) : Spec P f [] h fun v h' => v = .bool true ∧ Sub h h' := by
  obtain ⟨eh, n, hr⟩ := okT_some he
  unfold runE at hr
  rw [kev_eq, k_call_eq] at hr
  refine (xcall_ok hm hS (ev_ok hm hS fuel) f [] .nil 2 _ hr h ρ0 h [] (XSim.start h) .nil).mono ?_
  rintro v h' ⟨ρ', _, hs, hv⟩
  refine ⟨?_, fun b o hb => hs.fr b o hb⟩
  cases hv with | a hv => exact hv.toC.self_eq rfl
end
end Go.Proofs.YtjdhldfeflmneaaGreat.AM
