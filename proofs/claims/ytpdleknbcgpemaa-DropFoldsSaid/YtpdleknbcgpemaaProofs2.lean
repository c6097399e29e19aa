/-
  The laws of fold, and of both, hold: each returns true at every list, and the list reads as it did.
-/
import Derived.Test.YtpdleknbcgpemaaRows
import Derived.Test.YtpdleknbcgpemaaU8
import Derived.Test.YtpdleknbcgpemaaU13
set_option linter.unusedSimpArgs false
set_option linter.unusedVariables false
namespace Go.Proofs.Ytpdleknbcgpemaa
open Go.ChangeShapes Go.WideShapes Go.ChangeAt Go.RowKit
open AM

theorem Try.own2 : ownKnob Try.prog.godebug = none := by kernel_rfl
theorem Try.laidOut2 : laidOutB Try.prog = true := by kernel_rfl
theorem ndOk_v {l : List Nd} (h : ∀ n ∈ l, ndOk n) : ∀ n ∈ l, inU n.v := fun n hn => (h n hn).2.2.2.2
theorem foldGood_any {W : World} {v : Value} {l : List Nd} (hv : ∀ n ∈ l, ndOk n) (hl : (v = .slice none 0 0 ∧ l = []) ∨ (∃ a c, v = .slice (some a) 0 c ∧ l = []) ∨
      ∃ b o c ccs CE fz, v = .slice (some ⟨b, o, none⟩) l.length c ∧ W.heap[b]? = some (.cells ccs CE fz) ∧ ∀ i x, (l.flatMap Nd.cells)[i]? = some x → ccs[o + i]? = some x) :
    Calls Try.prog 5 #[v] W fun e w' => e = .returned (.bool true) ∧ Below W.heap.size W w' := by
  obtain ⟨ι, h, av, hr, ha, hs⟩ := start_nodes hl
  exact calls_of (foldGood_am hs (ndOk_v hv) fun _ _ => rfl) hr (.cons ha .nil) bool_self
set_option maxRecDepth 100000 in
theorem foldGood_lifted (os : Os) (started : os.Started) (H : Type) (enc : TypeId × Value → H) :
    ReturnsInHanded {} Try.checked os 5 .any (Rows.foldGoodSpec.pre6 enc Try.prog Try.f5 Rows.foldGoodRow.domain false) (Rows.foldGoodSpec.post enc Try.prog Try.f5 false true false false) := by
  refine returnsInHanded_of_change (C := Try.checked) Try.own2 started (by kernel_rfl) Try.func5
    (ChangeSpec.witness6 (enc := enc) (C := Try.checked) false ⟨#[], #[.slice none 0 0], []⟩ 8 (by kernel_rfl) (by kernel_rfl) (by kernel_rfl) (by kernel_rfl)) ?_
  intro W base args ds gs before hval0 hW hcnd _
  have hval : ∀ (j : Nat) t v, Try.f5.params[j]? = some t → args[j]? = some v → Value.okWide Try.prog W .any base t v := hval0
  have hW' := hW
  obtain ⟨p, q, hA0, hV, rfl, hfz, hnd⟩ := hW
  have hA : DataW.TrodAll enc Try.prog W 0 (fun _ => true) true Try.f5.params.toList args.toList ds p := hA0
  rw [Try.params5] at hA hval
  obtain ⟨v0, d0, rfl, rfl, t0⟩ := trodAll_one hA
  obtain ⟨rfl, rfl⟩ := trodVars_none hV
  obtain ⟨l, _, hok, hl⟩ := open_nodes (hval 0 22 v0 rfl rfl) t0
  clear hA0 hval0
  simp only [List.append_nil] at hW'
  have hlt : ∀ x ∈ p, x.block < W.heap.size := fun x hx => by simpa using hW'.lt x hx
  refine (foldGood_any hok hl).mono fun e W' ⟨he, hw⟩ => ?_
  subst he
  exact ⟨_, rfl, _, _, _, [], p, [], hW', trodAll_mk1 (shut_bool Try.underlying4 true), trodAll_mk1 (Below.trod Try.laidOut2 (by kernel_rfl) (of_decide_eq_true (by kernel_rfl)) t0 hw hlt), rfl, hw.frame _, fun h => by cases h⟩
theorem foldGood_holds : Rows.FoldGoodSaid :=
  OpenClaim.holds_of_wide 5 Try.f5 rfl rfl rfl rfl rfl rfl rfl ⟨rfl, rfl, rfl, rfl, rfl⟩ rfl rfl rfl rfl rfl (by kernel_rfl) Try.func5 (by kernel_rfl)
    (of_decide_eq_true (by kernel_rfl)) (by unfold Func.isWrapper; first | (rw [if_pos (by decide +kernel)]; kernel_rfl) | (rw [if_neg (by decide +kernel)]; exact ⟨rfl, rfl⟩))
    (fun os started H enc _ => foldGood_lifted os started H enc)
theorem foldTwice_any {W : World} {v : Value} {l : List Nd} (hv : ∀ n ∈ l, ndOk n) (hl : (v = .slice none 0 0 ∧ l = []) ∨ (∃ a c, v = .slice (some a) 0 c ∧ l = []) ∨
      ∃ b o c ccs CE fz, v = .slice (some ⟨b, o, none⟩) l.length c ∧ W.heap[b]? = some (.cells ccs CE fz) ∧ ∀ i x, (l.flatMap Nd.cells)[i]? = some x → ccs[o + i]? = some x) :
    Calls Try.prog 6 #[v] W fun e w' => e = .returned (.bool true) ∧ Below W.heap.size W w' := by
  obtain ⟨ι, h, av, hr, ha, hs⟩ := start_nodes hl
  exact calls_of (foldTwice_am hs (ndOk_v hv) fun _ _ => rfl) hr (.cons ha .nil) bool_self
set_option maxRecDepth 100000 in
theorem foldTwice_lifted (os : Os) (started : os.Started) (H : Type) (enc : TypeId × Value → H) :
    ReturnsInHanded {} Try.checked os 6 .any (Rows.foldTwiceSpec.pre6 enc Try.prog Try.f6 Rows.foldTwiceRow.domain false) (Rows.foldTwiceSpec.post enc Try.prog Try.f6 false true false false) := by
  refine returnsInHanded_of_change (C := Try.checked) Try.own2 started (by kernel_rfl) Try.func6
    (ChangeSpec.witness6 (enc := enc) (C := Try.checked) false ⟨#[], #[.slice none 0 0], []⟩ 8 (by kernel_rfl) (by kernel_rfl) (by kernel_rfl) (by kernel_rfl)) ?_
  intro W base args ds gs before hval0 hW hcnd _
  have hval : ∀ (j : Nat) t v, Try.f6.params[j]? = some t → args[j]? = some v → Value.okWide Try.prog W .any base t v := hval0
  have hW' := hW
  obtain ⟨p, q, hA0, hV, rfl, hfz, hnd⟩ := hW
  have hA : DataW.TrodAll enc Try.prog W 0 (fun _ => true) true Try.f6.params.toList args.toList ds p := hA0
  rw [Try.params6] at hA hval
  obtain ⟨v0, d0, rfl, rfl, t0⟩ := trodAll_one hA
  obtain ⟨rfl, rfl⟩ := trodVars_none hV
  obtain ⟨l, _, hok, hl⟩ := open_nodes (hval 0 22 v0 rfl rfl) t0
  clear hA0 hval0
  simp only [List.append_nil] at hW'
  have hlt : ∀ x ∈ p, x.block < W.heap.size := fun x hx => by simpa using hW'.lt x hx
  refine (foldTwice_any hok hl).mono fun e W' ⟨he, hw⟩ => ?_
  subst he
  exact ⟨_, rfl, _, _, _, [], p, [], hW', trodAll_mk1 (shut_bool Try.underlying4 true), trodAll_mk1 (Below.trod Try.laidOut2 (by kernel_rfl) (of_decide_eq_true (by kernel_rfl)) t0 hw hlt), rfl, hw.frame _, fun h => by cases h⟩
theorem foldTwice_holds : Rows.FoldTwiceSaid :=
  OpenClaim.holds_of_wide 6 Try.f6 rfl rfl rfl rfl rfl rfl rfl ⟨rfl, rfl, rfl, rfl, rfl⟩ rfl rfl rfl rfl rfl (by kernel_rfl) Try.func6 (by kernel_rfl)
    (of_decide_eq_true (by kernel_rfl)) (by unfold Func.isWrapper; first | (rw [if_pos (by decide +kernel)]; kernel_rfl) | (rw [if_neg (by decide +kernel)]; exact ⟨rfl, rfl⟩))
    (fun os started H enc _ => foldTwice_lifted os started H enc)
theorem dropFolds_any {W : World} {v : Value} {l : List Nd} (hv : ∀ n ∈ l, ndOk n) (hl : (v = .slice none 0 0 ∧ l = []) ∨ (∃ a c, v = .slice (some a) 0 c ∧ l = []) ∨
      ∃ b o c ccs CE fz, v = .slice (some ⟨b, o, none⟩) l.length c ∧ W.heap[b]? = some (.cells ccs CE fz) ∧ ∀ i x, (l.flatMap Nd.cells)[i]? = some x → ccs[o + i]? = some x) :
    Calls Try.prog 7 #[v] W fun e w' => e = .returned (.bool true) ∧ Below W.heap.size W w' := by
  obtain ⟨ι, h, av, hr, ha, hs⟩ := start_nodes hl
  exact calls_of (dropFolds_am hs (ndOk_v hv) fun _ _ => rfl) hr (.cons ha .nil) bool_self
set_option maxRecDepth 100000 in
theorem dropFolds_lifted (os : Os) (started : os.Started) (H : Type) (enc : TypeId × Value → H) :
    ReturnsInHanded {} Try.checked os 7 .any (Rows.dropFoldsSpec.pre6 enc Try.prog Try.f7 Rows.dropFoldsRow.domain false) (Rows.dropFoldsSpec.post enc Try.prog Try.f7 false true false false) := by
  refine returnsInHanded_of_change (C := Try.checked) Try.own2 started (by kernel_rfl) Try.func7
    (ChangeSpec.witness6 (enc := enc) (C := Try.checked) false ⟨#[], #[.slice none 0 0], []⟩ 8 (by kernel_rfl) (by kernel_rfl) (by kernel_rfl) (by kernel_rfl)) ?_
  intro W base args ds gs before hval0 hW hcnd _
  have hval : ∀ (j : Nat) t v, Try.f7.params[j]? = some t → args[j]? = some v → Value.okWide Try.prog W .any base t v := hval0
  have hW' := hW
  obtain ⟨p, q, hA0, hV, rfl, hfz, hnd⟩ := hW
  have hA : DataW.TrodAll enc Try.prog W 0 (fun _ => true) true Try.f7.params.toList args.toList ds p := hA0
  rw [Try.params7] at hA hval
  obtain ⟨v0, d0, rfl, rfl, t0⟩ := trodAll_one hA
  obtain ⟨rfl, rfl⟩ := trodVars_none hV
  obtain ⟨l, _, hok, hl⟩ := open_nodes (hval 0 22 v0 rfl rfl) t0
  clear hA0 hval0
  simp only [List.append_nil] at hW'
  have hlt : ∀ x ∈ p, x.block < W.heap.size := fun x hx => by simpa using hW'.lt x hx
  refine (dropFolds_any hok hl).mono fun e W' ⟨he, hw⟩ => ?_
  subst he
  exact ⟨_, rfl, _, _, _, [], p, [], hW', trodAll_mk1 (shut_bool Try.underlying4 true), trodAll_mk1 (Below.trod Try.laidOut2 (by kernel_rfl) (of_decide_eq_true (by kernel_rfl)) t0 hw hlt), rfl, hw.frame _, fun h => by cases h⟩
theorem dropFolds_holds : Rows.DropFoldsSaid :=
  OpenClaim.holds_of_wide 7 Try.f7 rfl rfl rfl rfl rfl rfl rfl ⟨rfl, rfl, rfl, rfl, rfl⟩ rfl rfl rfl rfl rfl (by kernel_rfl) Try.func7 (by kernel_rfl)
    (of_decide_eq_true (by kernel_rfl)) (by unfold Func.isWrapper; first | (rw [if_pos (by decide +kernel)]; kernel_rfl) | (rw [if_neg (by decide +kernel)]; exact ⟨rfl, rfl⟩))
    (fun os started H enc _ => dropFolds_lifted os started H enc)
end Go.Proofs.Ytpdleknbcgpemaa
