/-
  The list of nodes that comes in.
-/
import Derived.Test.YtpdleknbcgpemaaU7
import Derived.Test.YtpdleknbcgpemaaAMStart
import Derived.ProofKit
import Derived.Deep.Slices
set_option linter.unusedSimpArgs false
set_option linter.unusedVariables false
namespace Go.Proofs.Ytpdleknbcgpemaa
open AM
open Go.ChangeShapes Go.WideShapes Go.ChangeAt Go.RowKit

def ndOk (n : Nd) : Prop := (-9223372036854775808 ≤ n.op ∧ n.op < 9223372036854775808) ∧ (-9223372036854775808 ≤ n.to ∧ n.to < 9223372036854775808) ∧ (-9223372036854775808 ≤ n.a ∧ n.a < 9223372036854775808) ∧ (-9223372036854775808 ≤ n.b ∧ n.b < 9223372036854775808) ∧ 0 ≤ n.v ∧ n.v < 4294967296
theorem open_nd {H : Type} {enc : TypeId × Value → H} {W : World} {base : Nat} {sp : Nat → Bool} {held : Bool} {fuel : Nat} {cs : List Value} {x : DataW H × List MemPlace} (h : DataW.trod enc Try.prog W base sp held fuel 29 cs = some x) :
    ∃ n : Nd, cs = n.cells ∧ ndOk n := by
  obtain ⟨xs, k, _, _, hlen, hxl, hf⟩ := DataW.trod_struct Try.underlying29 h
  have hc5 : Try.prog.cellsOf 29 = 5 := by kernel_rfl
  rw [hc5] at hlen
  have c3 : Try.prog.cellsOf 3 = 1 := by kernel_rfl
  have c27 : Try.prog.cellsOf 27 = 1 := by kernel_rfl
  match cs, hlen with
  | [v0, v1, v2, v3, v4], _ =>
    have hx : ∀ i, i < 5 → ∃ y, xs[i]? = some y := fun i hi => ⟨xs[i]'(by rw [hxl]; exact hi), by simp [hxl]⟩
    obtain ⟨y0, e0⟩ := hx 0 (by omega)
    obtain ⟨y1, e1⟩ := hx 1 (by omega)
    obtain ⟨y2, e2⟩ := hx 2 (by omega)
    obtain ⟨y3, e3⟩ := hx 3 (by omega)
    obtain ⟨y4, e4⟩ := hx 4 (by omega)
    have g0 := hf 0 _ rfl
    have g1 := hf 1 _ rfl
    have g2 := hf 2 _ rfl
    have g3 := hf 3 _ rfl
    have g4 := hf 4 _ rfl
    simp [e0, e1, e2, e3, e4, c3, c27] at g0 g1 g2 g3 g4
    obtain ⟨a0, rfl', _, w0⟩ := DataW.trod_int Try.underlying3 g0
    obtain ⟨a1, rfl1, _, w1⟩ := DataW.trod_int Try.underlying3 g1
    obtain ⟨a2, rfl2, _, w2⟩ := DataW.trod_int Try.underlying3 g2
    obtain ⟨a3, rfl3, _, w3⟩ := DataW.trod_int Try.underlying3 g3
    obtain ⟨a4, rfl4, _, w4⟩ := DataW.trod_int Try.underlying27 g4
    simp at rfl' rfl1 rfl2 rfl3 rfl4
    subst rfl' rfl1 rfl2 rfl3 rfl4
    refine ⟨⟨a0, a1, a2, a3, a4⟩, rfl, ?_⟩
    simp [Lit.wf, IntKind.min, IntKind.max, IntKind.signed, IntKind.bits] at w0 w1 w2 w3 w4
    simp only [ndOk]
    omega
theorem flat_get {α : Type} {enc : α → List Value} {sz : Nat} {l : List α} (hl : ∀ x ∈ l, (enc x).length = sz) {q r : Nat} (hq : q < l.length) (hr : r < sz) : (l.flatMap enc)[q * sz + r]? = (enc l[q])[r]? := by
  rw [← flat_at q hq hl, List.getElem?_take_of_lt hr, List.getElem?_drop]
/-- The list that came in: what it is, and where it lies. -/
theorem open_nodes {H : Type} {enc : TypeId × Value → H} {W : World} {v : Value} {d : DataW H} {p : List MemPlace} {r : Reach} {b0 : Nat} (hval : Value.okWide Try.prog W r b0 22 v) (hj : DataW.Trod enc Try.prog W 0 (fun _ => true) true 22 v d p) :
    ∃ l : List Nd, l.length < 9223372036854775808 ∧ (∀ n ∈ l, ndOk n) ∧ ((v = .slice none 0 0 ∧ l = []) ∨ (∃ a c, v = .slice (some a) 0 c ∧ l = []) ∨
      ∃ b o c ccs CE fz, v = .slice (some ⟨b, o, none⟩) l.length c ∧ W.heap[b]? = some (.cells ccs CE fz) ∧ ∀ i x, (l.flatMap Nd.cells)[i]? = some x → ccs[o + i]? = some x) := by
  obtain ⟨a0, len, cap, rfl⟩ := okWide_slice Try.underlying22 hval
  obtain ⟨fuel, hf⟩ := hj
  rcases Go.Deep.open_slice Try.underlying22 hf with ⟨hcs, _⟩ | ⟨a, len', cap', m, n, D, Pl, hcs, _, hlc, hcm, hm, _, hx⟩
  · have e : Value.slice a0 len cap = .slice none 0 0 := by simpa [Value.cells] using hcs
    exact ⟨[], by simp, by simp, .inl ⟨e, rfl⟩⟩
  · have e : Value.slice a0 len cap = .slice (some a) len' cap' := by simpa [Value.cells] using hcs
    cases e
    have hmax : len < 9223372036854775808 := by unfold maxLen at hcm; omega
    have hlm : len ≤ m := by rw [hm]; simp; exact hlc
    by_cases h0 : len = 0
    · subst h0
      exact ⟨[], by simp, by simp, .inr (.inl ⟨a, cap, rfl, rfl⟩)⟩
    have each : ∀ i, ∃ q : Nd, i < len → ndOk q ∧ ∀ j, j < 5 → W.cell? ((a.add (i * 5)).add j) = q.cells[j]? := by
      intro i
      by_cases hi : i < len
      · obtain ⟨cs', h1, h2⟩ := hx i (by omega)
        have hc5 : Try.prog.cellsOf 29 = 5 := by kernel_rfl
        rw [hc5] at h1
        obtain ⟨_, _, hcell⟩ := World.cells?_some h1
        obtain ⟨q, rfl, hok⟩ := open_nd h2
        exact ⟨q, fun _ => ⟨hok, hcell⟩⟩
      · exact ⟨⟨0, 0, 0, 0, 0⟩, fun h => absurd h hi⟩
    obtain ⟨f, hfn⟩ := Classical.axiomOfChoice each
    have hcell0 := (hfn 0 (by omega)).2 0 (by omega)
    have ha0 : (a.add (0 * 5)).add 0 = a := by simp [Addr.add]
    rw [ha0] at hcell0
    have hcells : ∃ ccs CE fz, W.heap[a.block]? = some (.cells ccs CE fz) ∧ a.spot = none := by
      unfold World.cell? at hcell0
      split at hcell0
      · rename_i c t fz hh
        refine ⟨c, t, fz, hh, ?_⟩
        cases hs : a.spot with
        | none => rfl
        | some x => rw [hs] at hcell0; simp [Nd.cells] at hcell0
      · simp [Nd.cells] at hcell0
    obtain ⟨ccs, CE, fz, hh, hspot⟩ := hcells
    obtain ⟨ab, ao, asp⟩ := a
    simp only at hspot hh
    subst hspot
    have hadd : ∀ ao k, Addr.add ⟨ab, ao, none⟩ k = ⟨ab, ao + k, none⟩ := by
      intro ao k
      unfold Addr.add
      split
      · rename_i hk; subst hk; rfl
      · rfl
    have hcc : ∀ i, i < len → ∀ j, j < 5 → ccs[ao + (i * 5 + j)]? = (f i).cells[j]? := by
      intro i hi j hj
      have := (hfn i hi).2 j hj
      rw [hadd, hadd] at this
      unfold World.cell? at this
      simp only [hh, Option.isSome_none, Bool.false_eq_true, if_false] at this
      rw [← this, Nat.add_assoc]
    refine ⟨(List.range len).map f, by simpa using hmax, ?_, .inr (.inr ⟨ab, ao, cap, ccs, CE, fz, by simp, hh, ?_⟩)⟩
    · intro q hq
      obtain ⟨i, hi, rfl⟩ := List.mem_map.1 hq
      exact (hfn i (List.mem_range.1 hi)).1
    · intro i x hi
      have hil := (List.getElem?_eq_some_iff.1 hi).1
      rw [flat_length (nd_len _)] at hil
      simp only [List.length_map, List.length_range] at hil
      have hq : i / 5 < len := by omega
      have hr : i % 5 < 5 := Nat.mod_lt _ (by omega)
      have e : i = i / 5 * 5 + i % 5 := by omega
      rw [e] at hi ⊢
      rw [flat_get (nd_len _) (by simpa using hq) hr] at hi
      rw [hcc _ hq _ hr, ← hi]
      simp
theorem start_nodes {W : World} {v : Value} {l : List Nd} (hl : (v = .slice none 0 0 ∧ l = []) ∨ (∃ a c, v = .slice (some a) 0 c ∧ l = []) ∨
      ∃ b o c ccs CE fz, v = .slice (some ⟨b, o, none⟩) l.length c ∧ W.heap[b]? = some (.cells ccs CE fz) ∧ ∀ i x, (l.flatMap Nd.cells)[i]? = some x → ccs[o + i]? = some x) :
    ∃ ι h av, HRel Try.prog W ι h W ∧ ARel ι av v ∧ Sl Nd.cells 5 h av l := by
  rcases hl with ⟨rfl, rfl⟩ | ⟨a, c, rfl, rfl⟩ | ⟨b, o, c, ccs, CE, fz, rfl, hh, hc⟩
  · exact ⟨_, _, .slice none 0 0, HRel.start W, .c (.s .sliceNil), Sl.nil⟩
  · exact ⟨_, _, .slice (some ⟨1, 0, none⟩) 0 0, HRel.start W, .c (.s (.empty1 a c)), Sl.nil'⟩
  · have hlt : b < W.heap.size := (Array.getElem?_eq_some_iff.1 hh).1
    have := (HRel.start (P := Try.prog) W).addRo (b := 2) (l := ⟨b, o, 0⟩) (cs := l.flatMap Nd.cells) (E := 29) (by omega) rfl rfl hh hlt (fun i x hi => ⟨x, hc i x hi, by
      have hm := List.mem_of_getElem? hi
      obtain ⟨n, _, hn⟩ := List.mem_flatMap.1 hm
      simp only [Nd.cells, List.mem_cons, List.not_mem_nil, or_false] at hn
      rcases hn with rfl | rfl | rfl | rfl | rfl <;> exact .s (.int _ _)⟩)
    refine ⟨_, _, .slice (some ⟨2, 0, none⟩) l.length c, this, ?_, ?_⟩
    · have := SRel.slice (ι := ebind ι0 2 ⟨b, o, 0⟩) (b := 2) (o := 0) (n := l.length) (c := c) (l := ⟨b, o, 0⟩) (by simp [ebind])
      exact .c (.s this)
    · refine Sl.of_block (nd_len _) (upd_same _ _ _) ?_ ?_
      · rw [List.drop_zero, ← flat_length (nd_len _), List.take_length]
      · rw [flat_length (nd_len _)]; omega
theorem drop_good_any {W : World} {v : Value} {l : List Nd} (hl : (v = .slice none 0 0 ∧ l = []) ∨ (∃ a c, v = .slice (some a) 0 c ∧ l = []) ∨
      ∃ b o c ccs CE fz, v = .slice (some ⟨b, o, none⟩) l.length c ∧ W.heap[b]? = some (.cells ccs CE fz) ∧ ∀ i x, (l.flatMap Nd.cells)[i]? = some x → ccs[o + i]? = some x) :
    Calls Try.prog 3 #[v] W fun e w' => e = .returned (.bool true) ∧ Below W.heap.size W w' := by
  obtain ⟨ι, h, av, hr, ha, hs⟩ := start_nodes hl
  exact calls_of (dropGood_am hs fun _ _ => rfl) hr (.cons ha .nil) bool_self
theorem drop_twice_any {W : World} {v : Value} {l : List Nd} (hl : (v = .slice none 0 0 ∧ l = []) ∨ (∃ a c, v = .slice (some a) 0 c ∧ l = []) ∨
      ∃ b o c ccs CE fz, v = .slice (some ⟨b, o, none⟩) l.length c ∧ W.heap[b]? = some (.cells ccs CE fz) ∧ ∀ i x, (l.flatMap Nd.cells)[i]? = some x → ccs[o + i]? = some x) :
    Calls Try.prog 4 #[v] W fun e w' => e = .returned (.bool true) ∧ Below W.heap.size W w' := by
  obtain ⟨ι, h, av, hr, ha, hs⟩ := start_nodes hl
  exact calls_of (dropTwice_am hs fun _ _ => rfl) hr (.cons ha .nil) bool_self
end Go.Proofs.Ytpdleknbcgpemaa
