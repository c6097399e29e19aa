/-
  Proved here: the law 'ExecZero' (tincturelaw20) answers true at every number and every label, in every world, and changes nothing that came in; no conditions. By a verified executor over an abstract memory (texts X1..X7), run by the kernel with the number and the label unknown.
-/
import Derived.Test.YtdjjacjamgmdgaaGreatRun5
import Derived.Test.YtdjjacjamgmdgaaGreatRows
import Derived.KernelRfl
import Derived.ProofKit
import Derived.WideKeyArr2
set_option linter.unusedSimpArgs false
set_option linter.unusedVariables false
namespace Go.Proofs.YtdjjacjamgmdgaaGreat
open Go.ChangeShapes Go.WideShapes Go.ChangeAt Go.RowKit Go.WideMaps
open Go.Proofs.YtdjjacjamgmdgaaGreat.AM (okT)
section
variable {H : Type} {enc : TypeId × Value → H} {P : Program} {k e : TypeId} {q : IntKind} {W : World} {base : Nat} {sp : Nat → Bool} {held : Bool}
theorem cells_ints (he : P.underlying e = some (.int q)) {m : Nat} {cs : List Value} {c : Nat} : ∀ (L : List Nat) (xs : List (DataW H × List MemPlace)),
    L.mapM (fun i => DataW.trod enc P W base sp held m e ((cs.drop (i * c)).take c)) = some xs → ∀ i ∈ L, ∃ a, (cs.drop (i * c)).take c = [.int q a]
  | [], xs, h, i, hi => by cases hi
  | j :: L, xs, h, i, hi => by
    rw [List.mapM_cons] at h
    simp only [bind, Option.bind_eq_some_iff, pure, Option.some.injEq] at h
    obtain ⟨y, hy, ys, hys, rfl⟩ := h
    obtain ⟨a, ea, _, _⟩ := DataW.trod_int he hy
    rcases List.mem_cons.1 hi with rfl | hi
    · exact ⟨a, ea⟩
    · exact cells_ints he L ys hys i hi
theorem open_tag (A : ArrKey P k e 4) (he : P.underlying e = some (.int q)) {xs : Array Value} (hn : xs.size = 4) {d : DataW H} {ps : List MemPlace} (hd : DataW.Trod enc P W base sp held k (.agg xs) d ps) :
    ∃ a b c d, xs = #[.int q a, .int q b, .int q c, .int q d] := by
  obtain ⟨fuel, hf⟩ := hd
  cases fuel with
  | zero => simp [DataW.trod] at hf
  | succ m =>
    rw [DataW.trod_step] at hf
    unfold DataW.trodStep at hf
    simp only [A.hu, Value.cells] at hf
    rw [if_pos (by rw [A.size]; simpa using hn)] at hf
    simp only [Option.map_eq_some_iff] at hf
    obtain ⟨ys, hy, _⟩ := hf
    have hc := cells_ints he _ _ hy
    rw [A.one] at hc
    obtain ⟨l⟩ := xs
    have hl : l.length = 4 := hn
    match l, hl with
    | [x0, x1, x2, x3], _ =>
      obtain ⟨a, ha⟩ := hc 0 (by simp)
      obtain ⟨b, hb⟩ := hc 1 (by simp)
      obtain ⟨c, hc'⟩ := hc 2 (by simp)
      obtain ⟨d, hd⟩ := hc 3 (by simp)
      simp at ha hb hc' hd
      subst ha hb hc' hd
      exact ⟨a, b, c, d, rfl⟩
end
theorem Tryz.own : ownKnob Tryz.prog.godebug = none := by kernel_rfl
theorem Tryz.laidOut : laidOutB Tryz.prog = true := by kernel_rfl
theorem Tryz.arr : ArrKey Tryz.prog 42 5 4 := ⟨by kernel_rfl, by kernel_rfl, by kernel_rfl, by kernel_rfl⟩
set_option maxRecDepth 100000 in
theorem execZero_lifted (os : Os) (started : os.Started) (H : Type) (enc : TypeId × Value → H) :
    ReturnsInHanded {} Tryz.checked os 5 .any (Rows.execZeroSpec.pre6 enc Tryz.prog Tryz.f5 Rows.execZeroRow.domain false) (Rows.execZeroSpec.post enc Tryz.prog Tryz.f5 false true false false) := by
  refine returnsInHanded_of_change (C := Tryz.checked) Tryz.own started (by kernel_rfl) Tryz.func5
    (ChangeSpec.witness6 (enc := enc) (C := Tryz.checked) false ⟨#[], #[.int .u32 0, .agg #[.int .u8 0, .int .u8 0, .int .u8 0, .int .u8 0]], []⟩ 8 (by kernel_rfl) (by kernel_rfl) (by kernel_rfl) (by kernel_rfl)) ?_
  intro W base args ds gs before hval0 hW hcnd _
  have hval : ∀ (j : Nat) t v, Tryz.f5.params[j]? = some t → args[j]? = some v → Value.okWide Tryz.prog W .any base t v := hval0
  have hW' := hW
  obtain ⟨p, q, hA0, hV, rfl, hfz, hnd⟩ := hW
  have hA : DataW.TrodAll enc Tryz.prog W 0 (fun _ => true) true Tryz.f5.params.toList args.toList ds p := hA0
  rw [Tryz.params5] at hA hval
  obtain ⟨v0, v1, d0, d1, p0, p1, rfl, rfl, rfl, t0, t1⟩ := trodAll_two hA
  obtain ⟨rfl, rfl⟩ := trodVars_none hV
  have w0 := hval 0 27 v0 rfl rfl
  have w1 := hval 1 42 v1 rfl rfl
  obtain ⟨n, rfl, _, _, _⟩ := open_int Tryz.underlying27 w0 t0
  obtain ⟨xs, rfl, hn⟩ := okWide_arr Tryz.arr w1
  obtain ⟨a, b, c, d, rfl⟩ := open_tag Tryz.arr (q := .u8) Tryz.underlying5 hn t1
  clear hA0 hval0
  simp only [List.append_nil] at hW'
  have hlt : ∀ x ∈ p0 ++ p1, x.block < W.heap.size := fun x hx => hW'.lt x (by simpa using hx)
  refine (AM.calls_of (args := [.int .u32 n, .agg #[.int .u8 a, .int .u8 b, .int .u8 c, .int .u8 d]]) (cargs := #[.int .u32 n, .agg #[.int .u8 a, .int .u8 b, .int .u8 c, .int .u8 d]]) ((spec_5 n a b c d AM.h0).mono fun v h' hv => hv.1) (AM.HRel.start W)
    (.cons (AM.arel_self rfl) (.cons (AM.arel_self rfl) .nil)) fun ι v hv => AM.bool_self ι v hv).mono fun e W' ⟨he, hw⟩ => ?_
  subst he
  exact ⟨_, rfl, _, _, _, [], p0 ++ p1, [], hW', trodAll_mk1 (shut_bool Tryz.underlying4 true),
    trodAll_mk2 (Below.trod Tryz.laidOut (by kernel_rfl) (of_decide_eq_true (by kernel_rfl)) t0 hw fun x hx => hlt x (List.mem_append_left _ hx)) (Below.trod Tryz.laidOut (by kernel_rfl) (of_decide_eq_true (by kernel_rfl)) t1 hw fun x hx => hlt x (List.mem_append_right _ hx)),
    rfl, hw.frame _, fun h => by cases h⟩
theorem execZero_holds : Rows.ExecZeroSaid :=
  OpenClaim.holds_of_wide 5 Tryz.f5 rfl rfl rfl rfl rfl rfl rfl ⟨rfl, rfl, rfl, rfl, rfl⟩ rfl rfl rfl rfl rfl (by kernel_rfl) Tryz.func5 (by kernel_rfl)
    (of_decide_eq_true (by kernel_rfl)) (by unfold Func.isWrapper; first | (rw [if_pos (by decide +kernel)]; kernel_rfl) | (rw [if_neg (by decide +kernel)]; exact ⟨rfl, rfl⟩))
    (fun os started H enc _ => execZero_lifted os started H enc)
end Go.Proofs.YtdjjacjamgmdgaaGreat
