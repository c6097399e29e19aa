/-
  The list of nodes and the registers that come in.
-/
import Derived.Test.YtcohcmlidmaaoaaGreatND
import Derived.Test.YtcohcmlidmaaoaaGreatM4
import Derived.ProofKit
import Derived.Deep.Slices
import Derived.WideKeyArr2
set_option linter.unusedSimpArgs false
set_option linter.unusedVariables false
set_option maxRecDepth 100000
namespace Go.Proofs.YtcohcmlidmaaoaaGreat
open AM
open Go.ChangeShapes Go.WideShapes Go.ChangeAt Go.RowKit Go.WideMaps
theorem nd_len (l : List Nd) : ∀ x ∈ l, (Nd.cells x).length = 5 := fun _ _ => rfl
def ndOk (n : Nd) : Prop := (-9223372036854775808 ≤ n.op ∧ n.op < 9223372036854775808) ∧ (-9223372036854775808 ≤ n.to ∧ n.to < 9223372036854775808) ∧ (-9223372036854775808 ≤ n.a ∧ n.a < 9223372036854775808) ∧ (-9223372036854775808 ≤ n.b ∧ n.b < 9223372036854775808) ∧ 0 ≤ n.v ∧ n.v < 4294967296
theorem open_nd {H : Type} {enc : TypeId × Value → H} {W : World} {base : Nat} {sp : Nat → Bool} {held : Bool} {fuel : Nat} {cs : List Value} {x : DataW H × List MemPlace} (h : DataW.trod enc Tryz.prog W base sp held fuel 40 cs = some x) :
    ∃ n : Nd, cs = n.cells ∧ ndOk n := by
  obtain ⟨xs, k, _, _, hlen, hxl, hf⟩ := DataW.trod_struct Tryz.underlying40 h
  have hc5 : Tryz.prog.cellsOf 40 = 5 := by kernel_rfl
  rw [hc5] at hlen
  have c3 : Tryz.prog.cellsOf 3 = 1 := by kernel_rfl
  have c27 : Tryz.prog.cellsOf 27 = 1 := by kernel_rfl
  match cs, hlen with
  | [v0, v1, v2, v3, v4], _ =>
    have hx : ∀ i, i < 5 → ∃ y, xs[i]? = some y := fun i hi => ⟨xs[i]'(by rw [hxl]; exact hi), by simp [hxl]⟩
    obtain ⟨y0, e0⟩ := hx 0 (by omega)
    obtain ⟨y1, e1⟩ := hx 1 (by omega)
    obtain ⟨y2, e2⟩ := hx 2 (by omega)
    obtain ⟨y3, e3⟩ := hx 3 (by omega)
    obtain ⟨y4, e4⟩ := hx 4 (by omega)
    have g0 := hf 0 _ rfl
    have g1 := hf 1 _ rfl
    have g2 := hf 2 _ rfl
    have g3 := hf 3 _ rfl
    have g4 := hf 4 _ rfl
    simp [e0, e1, e2, e3, e4, c3, c27] at g0 g1 g2 g3 g4
    obtain ⟨a0, rfl', _, w0⟩ := DataW.trod_int Tryz.underlying3 g0
    obtain ⟨a1, rfl1, _, w1⟩ := DataW.trod_int Tryz.underlying3 g1
    obtain ⟨a2, rfl2, _, w2⟩ := DataW.trod_int Tryz.underlying3 g2
    obtain ⟨a3, rfl3, _, w3⟩ := DataW.trod_int Tryz.underlying3 g3
    obtain ⟨a4, rfl4, _, w4⟩ := DataW.trod_int Tryz.underlying27 g4
    simp at rfl' rfl1 rfl2 rfl3 rfl4
    subst rfl' rfl1 rfl2 rfl3 rfl4
    refine ⟨⟨a0, a1, a2, a3, a4⟩, rfl, ?_⟩
    simp [Lit.wf, IntKind.min, IntKind.max, IntKind.signed, IntKind.bits] at w0 w1 w2 w3 w4
    simp only [ndOk]
    omega
theorem flat_get {α : Type} {enc : α → List Value} {sz : Nat} {l : List α} (hl : ∀ x ∈ l, (enc x).length = sz) {q r : Nat} (hq : q < l.length) (hr : r < sz) : (l.flatMap enc)[q * sz + r]? = (enc l[q])[r]? := by
  rw [← flat_at q hq hl, List.getElem?_take_of_lt hr, List.getElem?_drop]
theorem open_nodes {H : Type} {enc : TypeId × Value → H} {W : World} {v : Value} {d : DataW H} {p : List MemPlace} {r : Reach} {b0 : Nat} (hval : Value.okWide Tryz.prog W r b0 41 v) (hj : DataW.Trod enc Tryz.prog W 0 (fun _ => true) true 41 v d p) :
    ∃ l : List Nd, l.length < 9223372036854775808 ∧ (∀ n ∈ l, ndOk n) ∧ ((v = .slice none 0 0 ∧ l = []) ∨ (∃ a c, v = .slice (some a) 0 c ∧ l = []) ∨
      ∃ b o c ccs CE fz, v = .slice (some ⟨b, o, none⟩) l.length c ∧ W.heap[b]? = some (.cells ccs CE fz) ∧ ∀ i x, (l.flatMap Nd.cells)[i]? = some x → ccs[o + i]? = some x) := by
  obtain ⟨a0, len, cap, rfl⟩ := okWide_slice Tryz.underlying41 hval
  obtain ⟨fuel, hf⟩ := hj
  rcases Go.Deep.open_slice Tryz.underlying41 hf with ⟨hcs, _⟩ | ⟨a, len', cap', m, n, D, Pl, hcs, _, hlc, hcm, hm, _, hx⟩
  · have e : Value.slice a0 len cap = .slice none 0 0 := by simpa [Value.cells] using hcs
    exact ⟨[], by simp, by simp, .inl ⟨e, rfl⟩⟩
  · have e : Value.slice a0 len cap = .slice (some a) len' cap' := by simpa [Value.cells] using hcs
    cases e
    have hmax : len < 9223372036854775808 := by unfold maxLen at hcm; omega
    have hlm : len ≤ m := by rw [hm]; simp; exact hlc
    by_cases h0 : len = 0
    · subst h0
      exact ⟨[], by simp, by simp, .inr (.inl ⟨a, cap, rfl, rfl⟩)⟩
    have each : ∀ i, ∃ q : Nd, i < len → ndOk q ∧ ∀ j, j < 5 → W.cell? ((a.add (i * 5)).add j) = q.cells[j]? := by
      intro i
      by_cases hi : i < len
      · obtain ⟨cs', h1, h2⟩ := hx i (by omega)
        have hc5 : Tryz.prog.cellsOf 40 = 5 := by kernel_rfl
        rw [hc5] at h1
        obtain ⟨_, _, hcell⟩ := World.cells?_some h1
        obtain ⟨q, rfl, hok⟩ := open_nd h2
        exact ⟨q, fun _ => ⟨hok, hcell⟩⟩
      · exact ⟨⟨0, 0, 0, 0, 0⟩, fun h => absurd h hi⟩
    obtain ⟨f, hfn⟩ := Classical.axiomOfChoice each
    have hcell0 := (hfn 0 (by omega)).2 0 (by omega)
    have ha0 : (a.add (0 * 5)).add 0 = a := by simp [Addr.add]
    rw [ha0] at hcell0
    have hcells : ∃ ccs CE fz, W.heap[a.block]? = some (.cells ccs CE fz) ∧ a.spot = none := by
      unfold World.cell? at hcell0
      split at hcell0
      · rename_i c t fz hh
        refine ⟨c, t, fz, hh, ?_⟩
        cases hs : a.spot with
        | none => rfl
        | some x => rw [hs] at hcell0; simp [Nd.cells] at hcell0
      · simp [Nd.cells] at hcell0
    obtain ⟨ccs, CE, fz, hh, hspot⟩ := hcells
    obtain ⟨ab, ao, asp⟩ := a
    simp only at hspot hh
    subst hspot
    have hadd : ∀ ao k, Addr.add ⟨ab, ao, none⟩ k = ⟨ab, ao + k, none⟩ := by
      intro ao k
      unfold Addr.add
      split
      · rename_i hk; subst hk; rfl
      · rfl
    have hcc : ∀ i, i < len → ∀ j, j < 5 → ccs[ao + (i * 5 + j)]? = (f i).cells[j]? := by
      intro i hi j hj
      have := (hfn i hi).2 j hj
      rw [hadd, hadd] at this
      unfold World.cell? at this
      simp only [hh, Option.isSome_none, Bool.false_eq_true, if_false] at this
      rw [← this, Nat.add_assoc]
    refine ⟨(List.range len).map f, by simpa using hmax, ?_, .inr (.inr ⟨ab, ao, cap, ccs, CE, fz, by simp, hh, ?_⟩)⟩
    · intro q hq
      obtain ⟨i, hi, rfl⟩ := List.mem_map.1 hq
      exact (hfn i (List.mem_range.1 hi)).1
    · intro i x hi
      have hil := (List.getElem?_eq_some_iff.1 hi).1
      rw [flat_length (nd_len _)] at hil
      simp only [List.length_map, List.length_range] at hil
      have hq : i / 5 < len := by omega
      have hr : i % 5 < 5 := Nat.mod_lt _ (by omega)
      have e : i = i / 5 * 5 + i % 5 := by omega
      rw [e] at hi ⊢
      rw [flat_get (nd_len _) (by simpa using hq) hr] at hi
      rw [hcc _ hq _ hr, ← hi]
      simp
theorem start_nodes {W : World} {v : Value} {l : List Nd} (hl : (v = .slice none 0 0 ∧ l = []) ∨ (∃ a c, v = .slice (some a) 0 c ∧ l = []) ∨
      ∃ b o c ccs CE fz, v = .slice (some ⟨b, o, none⟩) l.length c ∧ W.heap[b]? = some (.cells ccs CE fz) ∧ ∀ i x, (l.flatMap Nd.cells)[i]? = some x → ccs[o + i]? = some x) :
    ∃ ι h av, HRel Tryz.prog W ι h W ∧ ARel ι av v ∧ Sl Nd.cells 5 h av l := by
  rcases hl with ⟨rfl, rfl⟩ | ⟨a, c, rfl, rfl⟩ | ⟨b, o, c, ccs, CE, fz, rfl, hh, hc⟩
  · exact ⟨_, _, .slice none 0 0, HRel.start W, .c (.s .sliceNil), Sl.nil⟩
  · exact ⟨_, _, .slice (some ⟨1, 0, none⟩) 0 0, HRel.start W, .c (.s (.empty1 a c)), Sl.nil'⟩
  · have hlt : b < W.heap.size := (Array.getElem?_eq_some_iff.1 hh).1
    have := (HRel.start (P := Tryz.prog) W).addRo (b := 2) (l := ⟨b, o, 0⟩) (cs := l.flatMap Nd.cells) (E := 40) (by omega) rfl rfl hh hlt (fun i x hi => ⟨x, hc i x hi, by
      have hm := List.mem_of_getElem? hi
      obtain ⟨n, _, hn⟩ := List.mem_flatMap.1 hm
      simp only [Nd.cells, List.mem_cons, List.not_mem_nil, or_false] at hn
      rcases hn with rfl | rfl | rfl | rfl | rfl <;> exact .s (.int _ _)⟩)
    refine ⟨_, _, .slice (some ⟨2, 0, none⟩) l.length c, this, ?_, ?_⟩
    · have := SRel.slice (ι := ebind ι0 2 ⟨b, o, 0⟩) (b := 2) (o := 0) (n := l.length) (c := c) (l := ⟨b, o, 0⟩) (by simp [ebind])
      exact .c (.s this)
    · refine Sl.of_block (nd_len _) (upd_same _ _ _) ?_ ?_
      · rw [List.drop_zero, ← flat_length (nd_len _), List.take_length]
      · rw [flat_length (nd_len _)]; omega
section
variable {H : Type} {enc : TypeId × Value → H} {P : Program} {k e : TypeId} {q : IntKind} {W : World} {base : Nat} {sp : Nat → Bool} {held : Bool}
theorem cells_ints (he : P.underlying e = some (.int q)) {m : Nat} {cs : List Value} {c : Nat} : ∀ (L : List Nat) (xs : List (DataW H × List MemPlace)),
    L.mapM (fun i => DataW.trod enc P W base sp held m e ((cs.drop (i * c)).take c)) = some xs → ∀ i ∈ L, ∃ a, (cs.drop (i * c)).take c = [.int q a]
  | [], xs, h, i, hi => by cases hi
  | j :: L, xs, h, i, hi => by
    rw [List.mapM_cons] at h
    simp only [bind, Option.bind_eq_some_iff, pure, Option.some.injEq] at h
    obtain ⟨y, hy, ys, hys, rfl⟩ := h
    obtain ⟨a, ea, _, _⟩ := DataW.trod_int he hy
    rcases List.mem_cons.1 hi with rfl | hi
    · exact ⟨a, ea⟩
    · exact cells_ints he L ys hys i hi
theorem open_arr {n : Nat} (A : ArrKey P k e n) (he : P.underlying e = some (.int q)) {fuel : Nat} {cs : List Value} (hn : cs.length = n) {x : DataW H × List MemPlace} (hf : DataW.trod enc P W base sp held fuel k cs = some x) : ∀ i, i < n → ∃ a, cs[i]? = some (.int q a) := by
  cases fuel with
  | zero => simp [DataW.trod] at hf
  | succ m =>
    rw [DataW.trod_step] at hf
    unfold DataW.trodStep at hf
    simp only [A.hu] at hf
    rw [if_pos (by rw [A.size]; exact hn)] at hf
    simp only [Option.map_eq_some_iff] at hf
    obtain ⟨ys, hy, _⟩ := hf
    have hc := cells_ints he _ _ hy
    rw [A.one] at hc
    intro i hi
    obtain ⟨a, ha⟩ := hc i (List.mem_range.2 hi)
    refine ⟨a, ?_⟩
    have := congrArg (fun l => l[0]?) ha
    simpa using this
end
theorem Tryz.arr32 : ArrKey Tryz.prog 49 27 32 := ⟨by kernel_rfl, by kernel_rfl, by kernel_rfl, by kernel_rfl⟩
theorem open_state {H : Type} {enc : TypeId × Value → H} {W : World} {v : Value} {d : DataW H} {p : List MemPlace} {r : Reach} {b0 : Nat} (hval : Value.okWide Tryz.prog W r b0 51 v) (hj : DataW.Trod enc Tryz.prog W 0 (fun _ => true) true 51 v d p) :
    ∃ (s : List Value) (x : Int), v = .agg s.toArray ∧ StC s ∧ s[33]? = some (.int .i64 x) := by
  obtain ⟨xs, rfl, hsz⟩ := okWide_struct Tryz.underlying51 hval
  obtain ⟨s⟩ := xs
  have hc34 : Tryz.prog.cellsOf 51 = 34 := by kernel_rfl
  rw [hc34] at hsz
  have hlen : s.length = 34 := hsz
  obtain ⟨fuel, hf⟩ := hj
  obtain ⟨ys, k, _, _, _, hxl, hfs⟩ := DataW.trod_struct Tryz.underlying51 hf
  have hx : ∀ i, i < 3 → ∃ y, ys[i]? = some y := fun i hi => ⟨ys[i]'(by rw [hxl]; exact hi), by simp [hxl]⟩
  obtain ⟨y0, e0⟩ := hx 0 (by omega)
  obtain ⟨y1, e1⟩ := hx 1 (by omega)
  obtain ⟨y2, e2⟩ := hx 2 (by omega)
  have g0 := hfs 0 _ rfl
  have g1 := hfs 1 _ rfl
  have g2 := hfs 2 _ rfl
  have c0 : Tryz.prog.cellsOf 49 = 32 := by kernel_rfl
  have c1 : Tryz.prog.cellsOf 27 = 1 := by kernel_rfl
  have c2 : Tryz.prog.cellsOf 2 = 1 := by kernel_rfl
  simp only [e0, c0] at g0
  simp only [e1, c1] at g1
  simp only [e2, c2] at g2
  have a0 := open_arr Tryz.arr32 Tryz.underlying27 (cs := (s.drop 0).take 32) (by simp [hlen]) g0
  obtain ⟨a, ha, _, _⟩ := DataW.trod_int Tryz.underlying27 g1
  obtain ⟨b, hb, _, _⟩ := DataW.trod_int Tryz.underlying2 g2
  have ha : (s.drop 32).take 1 = [.int .u32 a] := ha
  have hb : (s.drop 33).take 1 = [.int .i64 b] := hb
  have h32 : s[32]? = some (.int .u32 a) := by
    have := congrArg (fun l => l[0]?) ha
    simpa using this
  have h33 : s[33]? = some (.int .i64 b) := by
    have := congrArg (fun l => l[0]?) hb
    simpa using this
  refine ⟨s, b, rfl, ⟨hlen, fun v hv => ?_⟩, h33⟩
  obtain ⟨i, hi, rfl⟩ := List.mem_iff_getElem.1 hv
  by_cases h1 : i < 32
  · obtain ⟨x, hx⟩ := a0 i h1
    rw [List.getElem?_take_of_lt h1, List.getElem?_drop, Nat.zero_add, List.getElem?_eq_getElem hi] at hx
    exact ⟨_, x, Option.some.inj hx⟩
  · by_cases h2 : i = 32
    · subst h2
      rw [List.getElem?_eq_getElem hi] at h32
      exact ⟨_, a, Option.some.inj h32⟩
    · have h3 : i = 33 := by omega
      subst h3
      rw [List.getElem?_eq_getElem hi] at h33
      exact ⟨_, b, Option.some.inj h33⟩
end Go.Proofs.YtcohcmlidmaaoaaGreat
