/-
  Proved here: the closed law 'TwinKnown' answers true, in every world, and changes nothing that came in; no conditions. By a verified executor over an abstract memory (texts X1..X10), run by the kernel.
-/
import Derived.Test.YtjdhldfeflmneaaGreatRun7
import Derived.Test.YtjdhldfeflmneaaGreatRows
import Derived.Test.YtjdhldfeflmneaaGreatFactsP
import Derived.Test.YtjdhldfeflmneaaGreatFacts7
import Derived.KernelRfl
import Derived.ProofKit
set_option linter.unusedSimpArgs false
set_option linter.unusedVariables false
namespace Go.Proofs.YtjdhldfeflmneaaGreat
open Go.ChangeShapes Go.WideShapes Go.ChangeAt Go.RowKit
set_option maxRecDepth 100000 in
theorem twinKnown_lifted (os : Os) (started : os.Started) (H : Type) (enc : TypeId × Value → H) :
    ReturnsInHanded {} Tryz.checked os 7 .any (Rows.twinKnownSpec.pre6 enc Tryz.prog Tryz.f7 Rows.twinKnownRow.domain false) (Rows.twinKnownSpec.post enc Tryz.prog Tryz.f7 false true false false) := by
  refine returnsInHanded_of_change (C := Tryz.checked) Tryz.own started (by kernel_rfl) Tryz.func7
    (ChangeSpec.witness6 (enc := enc) (C := Tryz.checked) false ⟨#[], #[], []⟩ 8 (by kernel_rfl) (by kernel_rfl) (by kernel_rfl) (by kernel_rfl)) ?_
  intro W base args ds gs before hval0 hW hcnd _
  have hW' := hW
  obtain ⟨p, q, hA0, hV, rfl, hfz, hnd⟩ := hW
  have hA : DataW.TrodAll enc Tryz.prog W 0 (fun _ => true) true Tryz.f7.params.toList args.toList ds p := hA0
  rw [Tryz.params7] at hA
  obtain ⟨rfl, rfl, rfl⟩ := trodAll_none hA
  obtain ⟨rfl, rfl⟩ := trodVars_none hV
  clear hA0 hval0
  simp only [List.append_nil] at hW'
  refine (AM.calls_of (cargs := #[]) ((law7 AM.h0).mono fun v h' hv => hv.1) (AM.HRel.start W) .nil fun ι v hv => AM.bool_self ι v hv).mono fun e W' ⟨he, hw⟩ => ?_
  subst he
  exact ⟨_, rfl, _, _, _, [], [], [], hW', trodAll_mk1 (shut_bool Tryz.underlying4 true), trodAll_mk0, rfl, hw.frame _, fun h => by cases h⟩
theorem twinKnown_facts : joinedFacts Tryz.prog 7 Tryz.f7 Rows.twinKnownSpec Rows.twinKnownRow = true := by
  unfold joinedFacts
  rw [inPlace7, unfollowed7, recurses7, named7, P_mapsRowed, P_stopsHeard, P_mayEnter, P_liftsFinal, Tryz.laidOut]
  kernel_rfl
theorem twinKnown_holds : Rows.TwinKnownSaid :=
  OpenClaim.holds_of_wide 7 Tryz.f7 rfl rfl rfl rfl rfl rfl rfl ⟨rfl, rfl, rfl, rfl, rfl⟩ rfl rfl rfl rfl rfl (by kernel_rfl) Tryz.func7 twinKnown_facts
    (of_decide_eq_true (by kernel_rfl)) (by unfold Func.isWrapper; first | (rw [if_pos (by decide +kernel)]; kernel_rfl) | (rw [if_neg (by decide +kernel)]; exact ⟨rfl, rfl⟩))
    (fun os started H enc _ => twinKnown_lifted os started H enc)
end Go.Proofs.YtjdhldfeflmneaaGreat
