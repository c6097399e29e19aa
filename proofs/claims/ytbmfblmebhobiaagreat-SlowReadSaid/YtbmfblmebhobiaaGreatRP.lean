/-
  The bytes that come in; 'SlowRead' over the abstract memory.
-/
import Derived.Test.YtbmfblmebhobiaaGreatRO
set_option linter.unusedSimpArgs false
set_option linter.unusedVariables false
set_option maxRecDepth 100000
namespace Go.Proofs.YtbmfblmebhobiaaGreat
open AM
open Go.ChangeShapes Go.WideShapes Go.ChangeAt Go.RowKit
theorem byte_of {a : Int} (h0 : 0 ≤ a) (h1 : a < 256) : ∃ n : Nat, n < 256 ∧ a = n := ⟨a.toNat, by omega, by omega⟩
theorem open_byte {H : Type} {enc : TypeId × Value → H} {W : World} {base : Nat} {sp : Nat → Bool} {held : Bool} {fuel : Nat} {cs : List Value} {x : DataW H × List MemPlace} (h : DataW.trod enc Tryz.prog W base sp held fuel 5 cs = some x) :
    ∃ n : Nat, n < 256 ∧ cs = [.int .u8 n] := by
  obtain ⟨a, rfl, _, w⟩ := DataW.trod_int Tryz.underlying5 h
  simp [Lit.wf, IntKind.min, IntKind.max, IntKind.signed, IntKind.bits] at w
  obtain ⟨n, hn, rfl⟩ := byte_of (a := a) (by omega) (by omega)
  exact ⟨n, hn, rfl⟩
/-- The bytes that came in: what they are, and where they lie. -/
theorem open_bytes {H : Type} {enc : TypeId × Value → H} {W : World} {v : Value} {d : DataW H} {p : List MemPlace} {r : Reach} {b0 : Nat} (hval : Value.okWide Tryz.prog W r b0 22 v) (hj : DataW.Trod enc Tryz.prog W 0 (fun _ => true) true 22 v d p) :
    v = .slice none 0 0 ∨ (∃ a c, v = .slice (some a) 0 c) ∨
      ∃ b o n c ccs CE fz, ∃ f : Nat → Nat, 0 < n ∧ v = .slice (some ⟨b, o, none⟩) n c ∧ W.heap[b]? = some (.cells ccs CE fz) ∧ ∀ i, i < n → f i < 256 ∧ ccs[o + i]? = some (.int .u8 (f i : Nat)) := by
  obtain ⟨a0, len, cap, rfl⟩ := okWide_slice Tryz.underlying22 hval
  obtain ⟨fuel, hf⟩ := hj
  rcases Go.Deep.open_slice Tryz.underlying22 hf with ⟨hcs, _⟩ | ⟨a, len', cap', m, n, D, Pl, hcs, _, hlc, hcm, hm, _, hx⟩
  · have e : Value.slice a0 len cap = .slice none 0 0 := by simpa [Value.cells] using hcs
    exact .inl e
  · have e : Value.slice a0 len cap = .slice (some a) len' cap' := by simpa [Value.cells] using hcs
    cases e
    have hlm : len ≤ m := by rw [hm]; simp; exact hlc
    by_cases h0 : len = 0
    · subst h0
      exact .inr (.inl ⟨a, cap, rfl⟩)
    have c1 : Tryz.prog.cellsOf 5 = 1 := by kernel_rfl
    have each : ∀ i, ∃ q : Nat, i < len → q < 256 ∧ W.cell? (a.add (i * 1)) = some (.int .u8 q) := by
      intro i
      by_cases hi : i < len
      · obtain ⟨cs', h1, h2⟩ := hx i (by omega)
        rw [c1] at h1
        obtain ⟨q, hq, rfl⟩ := open_byte h2
        obtain ⟨_, _, hcell⟩ := World.cells?_some h1
        refine ⟨q, fun _ => ⟨hq, ?_⟩⟩
        have := hcell 0 (by omega)
        simpa [Addr.add] using this
      · exact ⟨0, fun h => absurd h hi⟩
    obtain ⟨f, hfn⟩ := Classical.axiomOfChoice each
    have hcell0 := (hfn 0 (by omega)).2
    have ha0 : a.add (0 * 1) = a := by simp [Addr.add]
    rw [ha0] at hcell0
    have hcells : ∃ ccs CE fz, W.heap[a.block]? = some (.cells ccs CE fz) ∧ a.spot = none := by
      unfold World.cell? at hcell0
      split at hcell0
      · rename_i c t fz hh
        refine ⟨c, t, fz, hh, ?_⟩
        cases hs : a.spot with
        | none => rfl
        | some x => rw [hs] at hcell0; simp at hcell0
      · simp at hcell0
    obtain ⟨ccs, CE, fz, hh, hspot⟩ := hcells
    obtain ⟨ab, ao, asp⟩ := a
    simp only at hspot hh
    subst hspot
    have hadd : ∀ ao k, Addr.add ⟨ab, ao, none⟩ k = ⟨ab, ao + k, none⟩ := by
      intro ao k
      unfold Addr.add
      split
      · rename_i hk; subst hk; rfl
      · rfl
    refine .inr (.inr ⟨ab, ao, len, cap, ccs, CE, fz, f, by omega, rfl, hh, fun i hi => ?_⟩)
    have := (hfn i hi).2
    rw [hadd] at this
    unfold World.cell? at this
    simp only [hh, Option.isSome_none, Bool.false_eq_true, if_false, Nat.mul_one] at this
    exact ⟨(hfn i hi).1, this⟩
/-- What comes in, told by the abstract memory, and what the law answers. -/
theorem slowRead_am {H : Type} {enc : TypeId × Value → H} {W : World} {v : Value} {d : DataW H} {p : List MemPlace} {r0 : Reach} {b0 : Nat} (hval : Value.okWide Tryz.prog W r0 b0 22 v) (hj : DataW.Trod enc Tryz.prog W 0 (fun _ => true) true 22 v d p)
    {l : Int} (hl0 : 0 ≤ l) (hl1 : l < 256) (r : Bool) :
    ∃ ι h av, HRel Tryz.prog W ι h W ∧ ARel ι av v ∧ AM.Spec Tryz.prog 3 [av, .int .u8 l, .bool r] h fun v _ => v = .bool true := by
  have self : ∀ {ρ : Ren} {v : Value}, selfC v = true → RA ρ (.c v) v := fun h => .c (.of_self h)
  rcases open_bytes hval hj with rfl | ⟨a, c, rfl⟩ | ⟨b, o, n, c, ccs, CE, fz, f, hn0, rfl, hh, hc⟩
  · exact ⟨_, _, .slice none 0 0, HRel.start W, .c (.s .sliceNil), spec_trueWA mixed SL3_ok lit6 (runN l r) (sim0 undefT _) (.cons (self rfl) (.cons (self rfl) (.cons (self rfl) .nil)))⟩
  · exact ⟨_, _, .slice (some ⟨1, 0, none⟩) 0 0, HRel.start W, .c (.s (.empty1 a c)), spec_trueWA mixed SL3_ok lit6 (runL l r 1) (sim0 undefT _) (.cons (.c (.s (.sliceT (t := undefT) rfl))) (.cons (self rfl) (.cons (self rfl) .nil)))⟩
  · have hlt : b < W.heap.size := (Array.getElem?_eq_some_iff.1 hh).1
    have := (HRel.start (P := Tryz.prog) W).addRo (b := 2) (l := ⟨b, o, 0⟩) (cs := (List.range n).map fun i => Value.int .u8 (f i : Nat)) (E := 5) (by omega) rfl rfl hh hlt (fun i x hi => by
      have hil := (List.getElem?_eq_some_iff.1 hi).1
      simp only [List.length_map, List.length_range] at hil
      simp only [List.getElem?_map, List.getElem?_range hil, Option.map_some, Option.some.injEq] at hi
      subst hi
      exact ⟨_, (hc i hil).2, .s (.int _ _)⟩)
    have hsr : ARel (ebind ι0 2 ⟨b, o, 0⟩) (.slice (some ⟨2, 0, none⟩) n c) (.slice (some ⟨b, o, none⟩) n c) := by
      have := SRel.slice (ι := ebind ι0 2 ⟨b, o, 0⟩) (b := 2) (o := 0) (n := n) (c := c) (l := ⟨b, o, 0⟩) (by simp [ebind])
      exact .c (.s this)
    refine ⟨_, _, .slice (some ⟨2, 0, none⟩) n c, this, hsr, ?_⟩
    have easy : ∀ {x : XA}, RA (ρs undefT) x (.int .u8 l) → okT (runEWA Tryz.prog SL3 (nthN masks) (litOf 6 35 6 ps6) pl3 100000 3 [.c (.slice (some ⟨2, 0, none⟩) n CAPT), x, .c (.bool r)] .nil 3) = true →
        ∀ h, AM.Spec Tryz.prog 3 [.slice (some ⟨2, 0, none⟩) n c, .int .u8 l, .bool r] h fun v _ => v = .bool true := fun hx he h =>
      spec_trueWA mixed SL3_ok lit6 he (sim0 undefT h) (.cons (.c (.s (.sliceT (t := undefT) rfl))) (.cons hx (.cons (self rfl) .nil)))
    rcases (by omega : n = 1 ∨ n = 2 ∨ n = 3 ∨ n = 4 ∨ 5 ≤ n) with rfl | rfl | rfl | rfl | h5
    · exact easy (self rfl) (runL1 l r 2) _
    · exact easy (self rfl) (runL2 l r 2) _
    · exact easy (self rfl) (runL3 l r 2) _
    · by_cases hz : l = 0
      · subst hz; exact easy (self rfl) (runZ r 2) _
      · obtain ⟨k, hk, rfl⟩ := byte_of hl0 hl1
        have hg : tokG (mkToks k (f 0) (f 1) (f 2) (f 3)) := ⟨k, f 0, f 1, f 2, f 3, by omega, hk, (hc 0 (by omega)).1, (hc 1 (by omega)).1, (hc 2 (by omega)).1, (hc 3 (by omega)).1, rfl⟩
        have hrun : okT (runEWA Tryz.prog SL3 (nthN masks) (litOf 6 35 6 ps6) pl3 100000 3 (args3 r) eh3 3) = true := by
          cases r
          · exact run3f
          · exact run3t
        exact spec_trueWA mixed SL3_ok lit6 hrun (sim4 rfl hg (upd_same _ _ _)) (.cons (.c (.s (.sliceT (t := undefT) rfl))) (.cons (.c (.s (.tok (k := 0) rfl rfl hg))) (.cons (self rfl) .nil)))
    · obtain ⟨j, rfl⟩ : ∃ j : Nat, n = j.succ.succ.succ.succ.succ := ⟨n - 5, by omega⟩
      exact easy (self rfl) (runM l r 2 j) _
end Go.Proofs.YtbmfblmebhobiaaGreat
