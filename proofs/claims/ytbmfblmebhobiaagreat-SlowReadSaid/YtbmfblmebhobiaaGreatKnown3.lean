/-
  Proved here: the law 'SlowRead' (tincturelaw17) answers true at every list of bytes, every label, both kinds of source, in every world, and changes nothing that came in; no conditions. By a verified executor over an abstract memory, run by the kernel: the four bytes and the label stand as tokens that are not looked into.
-/
import Derived.Test.YtbmfblmebhobiaaGreatRP
import Derived.Test.YtbmfblmebhobiaaGreatRows
import Derived.Test.YtbmfblmebhobiaaGreatFactsP
import Derived.Test.YtbmfblmebhobiaaGreatFacts3
import Derived.KernelRfl
import Derived.ProofKit
set_option linter.unusedSimpArgs false
set_option linter.unusedVariables false
namespace Go.Proofs.YtbmfblmebhobiaaGreat
open Go.ChangeShapes Go.WideShapes Go.ChangeAt Go.RowKit
set_option maxRecDepth 100000 in
theorem slowRead_lifted (os : Os) (started : os.Started) (H : Type) (enc : TypeId × Value → H) :
    ReturnsInHanded {} Tryz.checked os 3 .any (Rows.slowReadSpec.pre6 enc Tryz.prog Tryz.f3 Rows.slowReadRow.domain false) (Rows.slowReadSpec.post enc Tryz.prog Tryz.f3 false true false false) := by
  refine returnsInHanded_of_change (C := Tryz.checked) Tryz.own started (by kernel_rfl) Tryz.func3
    (ChangeSpec.witness6 (enc := enc) (C := Tryz.checked) false ⟨#[], #[.slice none 0 0, .int .u8 0, .bool false], []⟩ 8 (by kernel_rfl) (by kernel_rfl) (by kernel_rfl) (by kernel_rfl)) ?_
  intro W base args ds gs before hval0 hW hcnd _
  have hval : ∀ (j : Nat) t v, Tryz.f3.params[j]? = some t → args[j]? = some v → Value.okWide Tryz.prog W .any base t v := hval0
  have hW' := hW
  obtain ⟨p, q, hA0, hV, rfl, hfz, hnd⟩ := hW
  have hA : DataW.TrodAll enc Tryz.prog W 0 (fun _ => true) true Tryz.f3.params.toList args.toList ds p := hA0
  rw [Tryz.params3] at hA hval
  obtain ⟨v0, v1, v2, d0, d1, d2, p0, p1, p2, rfl, rfl, rfl, t0, t1, t2⟩ := trodAll_three hA
  obtain ⟨rfl, rfl⟩ := trodVars_none hV
  have w0 := hval 0 22 v0 rfl rfl
  have w1 := hval 1 5 v1 rfl rfl
  have w2 := hval 2 4 v2 rfl rfl
  obtain ⟨l, rfl, rfl, rfl, k1⟩ := open_int Tryz.underlying5 w1 t1
  obtain ⟨r, rfl, rfl, rfl⟩ := open_bool Tryz.underlying4 w2 t2
  clear hA0 hval0
  simp only [List.append_nil] at hW'
  have hlt : ∀ x ∈ p0, x.block < W.heap.size := fun x hx => hW'.lt x (by simpa using hx)
  have kw := k1
  simp [Lit.wf, IntKind.min, IntKind.max, IntKind.signed, IntKind.bits] at k1
  obtain ⟨ι, h, av, hr, ha, hspec⟩ := slowRead_am w0 t0 (l := l) (by omega) (by omega) r
  refine (AM.calls_of (args := [av, .int .u8 l, .bool r]) (cargs := #[v0, .int .u8 l, .bool r]) hspec hr
    (.cons ha (.cons (AM.arel_self rfl) (.cons (AM.arel_self rfl) .nil))) AM.bool_self).mono fun e W' ⟨he, hw⟩ => ?_
  subst he
  exact ⟨_, rfl, _, _, _, [], p0, [], hW', trodAll_mk1 (shut_bool Tryz.underlying4 true),
    (by
      have := trodAll_mk3 (Below.trod Tryz.laidOut (by kernel_rfl) (of_decide_eq_true (by kernel_rfl)) t0 hw fun x hx => hlt x hx) (shut_int Tryz.underlying5 kw) (shut_bool Tryz.underlying4 r)
      simp only [List.append_nil] at this
      exact this),
    rfl, hw.frame _, fun h => by cases h⟩
theorem slowRead_facts : joinedFacts Tryz.prog 3 Tryz.f3 Rows.slowReadSpec Rows.slowReadRow = true := by
  unfold joinedFacts
  rw [inPlace3, unfollowed3, recurses3, named3, P_mapsRowed, P_stopsHeard, P_mayEnter, P_liftsFinal, Tryz.laidOut]
  kernel_rfl
theorem slowRead_holds : Rows.SlowReadSaid :=
  OpenClaim.holds_of_wide 3 Tryz.f3 rfl rfl rfl rfl rfl rfl rfl ⟨rfl, rfl, rfl, rfl, rfl⟩ rfl rfl rfl rfl rfl (by kernel_rfl) Tryz.func3 slowRead_facts
    (of_decide_eq_true (by kernel_rfl)) (by unfold Func.isWrapper; first | (rw [if_pos (by decide +kernel)]; kernel_rfl) | (rw [if_neg (by decide +kernel)]; exact ⟨rfl, rfl⟩))
    (fun os started H enc _ => slowRead_lifted os started H enc)
end Go.Proofs.YtbmfblmebhobiaaGreat
