/-
  Proved here: the law 'ExecNone' (tincturelaw20) answers true at every list of nodes, every state, every fuel, in every world, and changes nothing that came in; no conditions. By a walk over an abstract memory; two machines are held against each other by a verified executor, run by the kernel.
-/
import Derived.Test.YtcohcmlidmaaoaaGreatNO
import Derived.Test.YtcohcmlidmaaoaaGreatRows
import Derived.Test.YtcohcmlidmaaoaaGreatFactsP
import Derived.Test.YtcohcmlidmaaoaaGreatFacts4
import Derived.KernelRfl
import Derived.ProofKit
set_option linter.unusedSimpArgs false
set_option linter.unusedVariables false
namespace Go.Proofs.YtcohcmlidmaaoaaGreat
open Go.ChangeShapes Go.WideShapes Go.ChangeAt Go.RowKit
set_option maxRecDepth 100000 in
theorem execNone_lifted (os : Os) (started : os.Started) (H : Type) (enc : TypeId × Value → H) :
    ReturnsInHanded {} Tryz.checked os 4 .any (Rows.execNoneSpec.pre6 enc Tryz.prog Tryz.f4 Rows.execNoneRow.domain false) (Rows.execNoneSpec.post enc Tryz.prog Tryz.f4 false true false false) := by
  refine returnsInHanded_of_change (C := Tryz.checked) Tryz.own started (by kernel_rfl) Tryz.func4
    (ChangeSpec.witness6 (enc := enc) (C := Tryz.checked) false ⟨#[], #[.slice none 0 0, .agg #[.int .u32 0, .int .u32 0, .int .u32 0, .int .u32 0, .int .u32 0, .int .u32 0, .int .u32 0, .int .u32 0, .int .u32 0, .int .u32 0, .int .u32 0, .int .u32 0, .int .u32 0, .int .u32 0, .int .u32 0, .int .u32 0, .int .u32 0, .int .u32 0, .int .u32 0, .int .u32 0, .int .u32 0, .int .u32 0, .int .u32 0, .int .u32 0, .int .u32 0, .int .u32 0, .int .u32 0, .int .u32 0, .int .u32 0, .int .u32 0, .int .u32 0, .int .u32 0, .int .u32 0, .int .i64 0], .int .i64 0], []⟩ 8 (by kernel_rfl) (by kernel_rfl) (by kernel_rfl) (by kernel_rfl)) ?_
  intro W base args ds gs before hval0 hW hcnd _
  have hval : ∀ (j : Nat) t v, Tryz.f4.params[j]? = some t → args[j]? = some v → Value.okWide Tryz.prog W .any base t v := hval0
  have hW' := hW
  obtain ⟨p, q, hA0, hV, rfl, hfz, hnd⟩ := hW
  have hA : DataW.TrodAll enc Tryz.prog W 0 (fun _ => true) true Tryz.f4.params.toList args.toList ds p := hA0
  rw [Tryz.params4] at hA hval
  obtain ⟨v0, v1, v2, d0, d1, d2, p0, p1, p2, rfl, rfl, rfl, t0, t1, t2⟩ := trodAll_three hA
  obtain ⟨rfl, rfl⟩ := trodVars_none hV
  have w0 := hval 0 41 v0 rfl rfl
  have w1 := hval 1 51 v1 rfl rfl
  have w2 := hval 2 2 v2 rfl rfl
  obtain ⟨l, hlen, _, hl⟩ := open_nodes w0 t0
  obtain ⟨s, x, rfl, hs, h33⟩ := open_state w1 t1
  obtain ⟨n2, rfl, rfl, rfl, k2⟩ := open_int Tryz.underlying2 w2 t2
  clear hA0 hval0
  simp only [List.append_nil] at hW'
  have hlt : ∀ x ∈ p0 ++ p1, x.block < W.heap.size := fun x hx => hW'.lt x (by simpa using hx)
  obtain ⟨ι, h, av, hr, ha, hsl⟩ := start_nodes hl
  have hself : AM.selfA (.agg s.toArray) = true := hs.self
  refine (AM.calls_of (args := [av, .agg s.toArray, .int .i64 n2]) (cargs := #[v0, .agg s.toArray, .int .i64 n2]) (execNone_am (Q := fun v _ => v = .bool true) hsl hs h33 fun _ => rfl) hr
    (.cons ha (.cons (AM.arel_self hself) (.cons (AM.arel_self rfl) .nil))) AM.bool_self).mono fun e W' ⟨he, hw⟩ => ?_
  subst he
  exact ⟨_, rfl, _, _, _, [], p0 ++ p1, [], hW', trodAll_mk1 (shut_bool Tryz.underlying4 true),
    (by
      have := trodAll_mk3 (Below.trod Tryz.laidOut (by kernel_rfl) (of_decide_eq_true (by kernel_rfl)) t0 hw fun x hx => hlt x (List.mem_append_left _ hx)) (Below.trod Tryz.laidOut (by kernel_rfl) (of_decide_eq_true (by kernel_rfl)) t1 hw fun x hx => hlt x (List.mem_append_right _ hx)) (shut_int Tryz.underlying2 k2)
      rw [List.append_nil] at this
      exact this),
    rfl, hw.frame _, fun h => by cases h⟩
theorem execNone_facts : joinedFacts Tryz.prog 4 Tryz.f4 Rows.execNoneSpec Rows.execNoneRow = true := by
  unfold joinedFacts
  rw [inPlace4, unfollowed4, recurses4, named4, P_mapsRowed, P_stopsHeard, P_mayEnter, P_liftsFinal, Tryz.laidOut]
  kernel_rfl
theorem execNone_holds : Rows.ExecNoneSaid :=
  OpenClaim.holds_of_wide 4 Tryz.f4 rfl rfl rfl rfl rfl rfl rfl ⟨rfl, rfl, rfl, rfl, rfl⟩ rfl rfl rfl rfl rfl (by kernel_rfl) Tryz.func4 execNone_facts
    (of_decide_eq_true (by kernel_rfl)) (by unfold Func.isWrapper; first | (rw [if_pos (by decide +kernel)]; kernel_rfl) | (rw [if_neg (by decide +kernel)]; exact ⟨rfl, rfl⟩))
    (fun os started H enc _ => execNone_lifted os started H enc)
end Go.Proofs.YtcohcmlidmaaoaaGreat
