/-
  Proved here: the law 'ExecMarks' (tincturelaw20) answers true at every four arguments, in every world, and changes nothing that came in; no conditions. By a walk of exec.Run over an abstract memory, and a plain law of lists of marks.
-/
import Derived.Test.YtcohcmlidmaaoaaGreatMA7
import Derived.Test.YtcohcmlidmaaoaaGreatRows
import Derived.Test.YtcohcmlidmaaoaaGreatFactsP
import Derived.Test.YtcohcmlidmaaoaaGreatFacts3
import Derived.KernelRfl
import Derived.ProofKit
import Derived.Carry
set_option linter.unusedSimpArgs false
set_option linter.unusedVariables false
namespace Go.Proofs.YtcohcmlidmaaoaaGreat
open Go.ChangeShapes Go.WideShapes Go.ChangeAt Go.RowKit
set_option maxRecDepth 100000 in
theorem execMarks_lifted (os : Os) (started : os.Started) (H : Type) (enc : TypeId × Value → H) :
    ReturnsInHanded {} Tryz.checked os 3 .any (Rows.execMarksSpec.pre6 enc Tryz.prog Tryz.f3 Rows.execMarksRow.domain false) (Rows.execMarksSpec.post enc Tryz.prog Tryz.f3 false true false false) := by
  refine returnsInHanded_of_change (C := Tryz.checked) Tryz.own started (by kernel_rfl) Tryz.func3
    (ChangeSpec.witness6 (enc := enc) (C := Tryz.checked) false ⟨#[], #[.int .i64 0, .int .i64 0, .int .i64 0, .bool false], []⟩ 8 (by kernel_rfl) (by kernel_rfl) (by kernel_rfl) (by kernel_rfl)) ?_
  intro W base args ds gs before hval0 hW hcnd _
  have hval : ∀ (j : Nat) t v, Tryz.f3.params[j]? = some t → args[j]? = some v → Value.okWide Tryz.prog W .any base t v := hval0
  have hW' := hW
  obtain ⟨p, q, hA0, hV, rfl, hfz, hnd⟩ := hW
  have hA : DataW.TrodAll enc Tryz.prog W 0 (fun _ => true) true Tryz.f3.params.toList args.toList ds p := hA0
  rw [Tryz.params3] at hA hval
  obtain ⟨v0, v1, v2, v3, d0, d1, d2, d3, p0, p1, p2, p3, rfl, rfl, rfl, t0, t1, t2, t3⟩ := trodAll_four hA
  obtain ⟨rfl, rfl⟩ := trodVars_none hV
  have w0 := hval 0 3 v0 rfl rfl
  have w1 := hval 1 2 v1 rfl rfl
  have w2 := hval 2 3 v2 rfl rfl
  have w3 := hval 3 4 v3 rfl rfl
  obtain ⟨n0, rfl, rfl, rfl, k0⟩ := open_int Tryz.underlying3 w0 t0
  obtain ⟨n1, rfl, rfl, rfl, k1⟩ := open_int Tryz.underlying2 w1 t1
  obtain ⟨n2, rfl, rfl, rfl, k2⟩ := open_int Tryz.underlying3 w2 t2
  obtain ⟨b3, rfl, rfl, rfl⟩ := open_bool Tryz.underlying4 w3 t3
  clear hA0 hval0
  simp only [List.append_nil] at hW'
  refine (AM.calls_of (args := [.int .i64 n0, .int .i64 n1, .int .i64 n2, .bool b3]) (cargs := #[.int .i64 n0, .int .i64 n1, .int .i64 n2, .bool b3]) (execMarks_am (h := AM.h0) (Q := fun v _ => v = .bool true) fun _ => rfl) (AM.HRel.start W)
    (.cons (AM.arel_self rfl) (.cons (AM.arel_self rfl) (.cons (AM.arel_self rfl) (.cons (AM.arel_self rfl) .nil)))) fun ι v hv => AM.bool_self ι v hv).mono fun e W' ⟨he, hw⟩ => ?_
  subst he
  exact ⟨_, rfl, _, _, _, [], [], [], hW', trodAll_mk1 (shut_bool Tryz.underlying4 true),
    trodAll_mk4 (shut_int Tryz.underlying3 k0) (shut_int Tryz.underlying2 k1) (shut_int Tryz.underlying3 k2) (shut_bool Tryz.underlying4 b3),
    rfl, hw.frame _, fun h => by cases h⟩
theorem execMarks_facts : joinedFacts Tryz.prog 3 Tryz.f3 Rows.execMarksSpec Rows.execMarksRow = true := by
  unfold joinedFacts
  rw [inPlace3, unfollowed3, recurses3, named3, P_mapsRowed, P_stopsHeard, P_mayEnter, P_liftsFinal, Tryz.laidOut]
  kernel_rfl
theorem execMarks_holds : Rows.ExecMarksSaid :=
  OpenClaim.holds_of_wide 3 Tryz.f3 rfl rfl rfl rfl rfl rfl rfl ⟨rfl, rfl, rfl, rfl, rfl⟩ rfl rfl rfl rfl rfl (by kernel_rfl) Tryz.func3 execMarks_facts
    (of_decide_eq_true (by kernel_rfl)) (by unfold Func.isWrapper; first | (rw [if_pos (by decide +kernel)]; kernel_rfl) | (rw [if_neg (by decide +kernel)]; exact ⟨rfl, rfl⟩))
    (fun os started H enc _ => execMarks_lifted os started H enc)
end Go.Proofs.YtcohcmlidmaaoaaGreat
