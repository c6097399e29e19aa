/-
  The operations in the abstract memory tell what the model's operations do: stretches, append, copy, conversions.
-/
import Derived.Test.YtjdhldfeflmneaaGreatAMOps4
set_option linter.unusedSimpArgs false
set_option linter.unusedVariables false
namespace Go.Proofs.YtjdhldfeflmneaaGreat.AM
open Go.RowKit
section
variable {P : Program} {W : World} {ι : Env} {h : H} {w : World}

/-! ### Stretches -/
abbrev loIs (lo : Option Value) (l : Nat) : Prop := match lo with | some (.int _ i) => i = (l : Int) | none => l = 0 | _ => False
abbrev hiIs (hi : Option Value) (n u : Nat) : Prop := match hi with | some (.int _ i) => i = (u : Int) | none => u = n | _ => False
theorem loIs_spec {lo : Option Value} {l : Nat} (hl : loIs lo l) : (lo = none ∧ l = 0) ∨ ∃ k, lo = some (.int k l) := by
  unfold loIs at hl
  split at hl
  · subst hl; exact .inr ⟨_, rfl⟩
  · exact .inl ⟨rfl, hl⟩
  · exact hl.elim
theorem hiIs_spec {hi : Option Value} {n u : Nat} (hl : hiIs hi n u) : (hi = none ∧ u = n) ∨ ∃ k, hi = some (.int k u) := by
  unfold hiIs at hl
  split at hl
  · subst hl; exact .inr ⟨_, rfl⟩
  · exact .inl ⟨rfl, hl⟩
  · exact hl.elim
theorem run_bound (k : IntKind) {l y : Nat} (h : l ≤ y) (code : BoundsCode) (w : World) : (Instr.sliceBound (.int k l) y code).run P w = .ok l w := by
  have : (0 : Int) ≤ l ∧ (l : Int) ≤ y := by omega
  simp [Instr.sliceBound, asIntOf, this.2]
theorem run_bounds {lo hi : Option Value} {n c l u : Nat} (isS : Bool) (hl : loIs lo l) (hh : hiIs hi n u) (h1 : l ≤ u) (h2 : u ≤ c) (w : World) :
    (Instr.sliceBounds isS n c lo hi none).run P w = .ok (l, u, c) w := by
  rcases loIs_spec hl with ⟨rfl, rfl⟩ | ⟨k, rfl⟩ <;> rcases hiIs_spec hh with ⟨rfl, rfl⟩ | ⟨k', rfl⟩ <;>
    simp [Instr.sliceBounds, run_bound _ h1, run_bound _ h2]
theorem orel_opt {lo clo : Option Value} (h : (lo = none ∧ clo = none) ∨ ∃ v cv, lo = some v ∧ clo = some cv ∧ VRel ι v cv) {l : Nat} (hl : loIs lo l) : loIs clo l := by
  rcases h with ⟨rfl, rfl⟩ | ⟨v, cv, rfl, rfl, hv⟩
  · exact hl
  · rcases loIs_spec hl with ⟨e, _⟩ | ⟨k, e⟩
    · cases e
    · cases e; obtain rfl := hv.int; exact hl
theorem orel_hi {lo clo : Option Value} (h : (lo = none ∧ clo = none) ∨ ∃ v cv, lo = some v ∧ clo = some cv ∧ VRel ι v cv) {n l : Nat} (hl : hiIs lo n l) : hiIs clo n l := by
  rcases h with ⟨rfl, rfl⟩ | ⟨v, cv, rfl, rfl, hv⟩
  · exact hl
  · rcases hiIs_spec hl with ⟨e, _⟩ | ⟨k, e⟩
    · cases e
    · cases e; obtain rfl := hv.int; exact hl
abbrev ORelOpt (ι : Env) (lo clo : Option Value) : Prop := (lo = none ∧ clo = none) ∨ ∃ v cv, lo = some v ∧ clo = some cv ∧ VRel ι v cv

theorem run_bounds3 {lo hi : Option Value} {k : IntKind} {n c : Nat} (hl : match lo with | some (.int _ i) => i = 0 | none => True | _ => False) (hh : match hi with | some (.int _ i) => i = 0 | _ => False) (w : World) :
    (Instr.sliceBounds true n c lo hi (some (.int k 0))).run P w = .ok (0, 0, 0) w := by
  have hl' : lo = none ∨ ∃ k, lo = some (.int k 0) := by
    split at hl
    · subst hl; exact .inr ⟨_, rfl⟩
    · exact .inl rfl
    · exact hl.elim
  have hh' : ∃ k, hi = some (.int k 0) := by
    split at hh
    · subst hh; exact ⟨_, rfl⟩
    · exact hh.elim
  obtain ⟨k', rfl⟩ := hh'
  have hb : ∀ (k : IntKind) (y : Nat) code, (Instr.sliceBound (.int k 0) y code).run P w = .ok 0 w := fun k y code => run_bound k (Nat.zero_le y) code w
  rcases hl' with rfl | ⟨k, rfl⟩ <;> simp [Instr.sliceBounds, hb]

theorem sim_slice {t e : TypeId} {inf : TypeInfo} {x cx : Value} {lo hi mx clo chi cmx : Option Value} {K : Value → H → Prop} (hu : P.underlying t = some (.slice e)) (hi' : P.info? e = some inf) (hr : HRel P W ι h w) (hx : VRel ι x cx)
    (hlo : ORelOpt ι lo clo) (hhi : ORelOpt ι hi chi) (hmx : ORelOpt ι mx cmx)
    (hk : o_slice inf.size x lo hi mx fun v => K v h) : Sim P W ι (Instr.sliceAt t cx clo chi cmx) w K := by
  have hsl : ∀ (a : Option Addr) (n c l u m : Nat), (Instr.sliceBounds true n c clo chi cmx).run P w = .ok (l, u, m) w →
      (Instr.sliceAt t (.slice a n c) clo chi cmx).run P w = .ok (.slice (if m = l then a else a.map (·.add (l * inf.size))) (u - l) (m - l)) w := by
    intro a n c l u m hb
    simp [Instr.sliceAt, Instr.slice, run_und hu, hb, run_size hi']
  have hmxN : ∀ {m}, mx = m → m = none → cmx = none := by
    rintro m rfl rfl
    rcases hmx with ⟨_, h⟩ | ⟨v, cv, h, _⟩
    · exact h
    · cases h
  unfold o_slice at hk
  split at hk
  · rename_i b o n c
    obtain rfl : cmx = none := hmxN rfl rfl
    obtain ⟨l, u, hl, hh, h1, h2, hk⟩ := hk
    have hl' := orel_opt hlo (l := l) hl
    have hh' := orel_hi hhi (n := n) (l := u) hh
    rcases hx.slice with ⟨lc, hlc, rfl⟩ | ⟨rfl, rfl, rfl, rfl, a, rfl⟩ | ⟨rfl, rfl, rfl, rfl, a, c', rfl⟩
    · have hb := run_bounds (P := P) true hl' hh' h1 (show u ≤ c + lc.k by omega) w
      have hs := hsl (some ⟨lc.b, lc.o + o, none⟩) n (c + lc.k) l u (c + lc.k) hb
      split at hk
      · subst_vars
        refine Sim.quiet hr hs ?_ hk
        have := SRel.slice (ι := ι) (o := o) (n := u) (c := c) hlc
        have e1 : (if c + lc.k = 0 then some (⟨lc.b, lc.o + o, none⟩ : Addr) else Option.map (fun x : Addr => x.add (0 * inf.size)) (some ⟨lc.b, lc.o + o, none⟩)) = some ⟨lc.b, lc.o + o, none⟩ := by
          split
          · rfl
          · simp [add_none]
        rw [e1]
        simpa using VRel.a (.c (.s this))
      · split at hk
        · refine Sim.quiet hr hs ?_ hk
          rw [if_neg (by omega)]
          have := SRel.slice (ι := ι) (o := o + l * inf.size) (n := u - l) (c := c - l) hlc
          have e2 : c + lc.k - l = c - l + lc.k := by omega
          rw [← Nat.add_assoc] at this
          simp only [Option.map_some, add_none, e2]
          exact .a (.c (.s this))
        · obtain rfl : l = c := by omega
          obtain rfl : u = l := by omega
          refine Sim.quiet hr hs ?_ hk
          have : ∀ a : Option Addr, a.isSome = true → ∀ c, VRel ι (.slice (some ⟨1, 0, none⟩) 0 0) (.slice a 0 c) := by
            intro a ha c
            obtain ⟨a, rfl⟩ := Option.isSome_iff_exists.1 ha
            exact .a (.c (.s (.empty1 a c)))
          rw [Nat.sub_self]
          exact this _ (by split <;> rfl) _
    · have h0 : l = 0 ∧ u = 0 := by omega
      obtain ⟨rfl, rfl⟩ := h0
      rw [if_pos rfl] at hk
      have hb := run_bounds (P := P) true hl' hh' h1 (Nat.le_refl 0) w
      refine Sim.quiet hr (hsl (some a) 0 0 0 0 0 hb) ?_ hk
      simp only [if_true]
      exact .a (.c (.s (.empty0 a)))
    · have h0 : l = 0 ∧ u = 0 := by omega
      obtain ⟨rfl, rfl⟩ := h0
      rw [if_pos rfl] at hk
      have hb := run_bounds (P := P) true hl' hh' h1 (Nat.zero_le c') w
      refine Sim.quiet hr (hsl (some a) 0 c' 0 0 c' hb) ?_ hk
      have e1 : (if c' = 0 then some a else Option.map (fun x : Addr => x.add (0 * inf.size)) (some a)) = some a := by
        split
        · rfl
        · simp [Addr.add]
      rw [e1]
      exact .a (.c (.s (.empty1 a c')))
  · rename_i b o n c
    obtain ⟨hl, hh, hk⟩ := hk
    have hmx' : ∃ k, cmx = some (.int k 0) := by
      rcases hmx with ⟨h, _⟩ | ⟨v, cv, h, h', hv⟩
      · cases h
      · cases h; obtain rfl := hv.int; exact ⟨_, h'⟩
    obtain ⟨k, rfl⟩ := hmx'
    have hl' : (match clo with | some (.int _ i) => i = 0 | none => True | _ => False) := by
      rcases hlo with ⟨rfl, rfl⟩ | ⟨v, cv, rfl, rfl, hv⟩
      · trivial
      · cases v <;> simp at hl
        obtain rfl := hv.int; exact hl
    have hh' : (match chi with | some (.int _ i) => i = 0 | _ => False) := by
      rcases hhi with ⟨rfl, rfl⟩ | ⟨v, cv, rfl, rfl, hv⟩
      · exact hh
      · cases v <;> simp at hh
        obtain rfl := hv.int; exact hh
    have he : ∀ (a : Addr) (n c : Nat), Sim P W ι (Instr.sliceAt t (.slice (some a) n c) clo chi (some (.int k 0))) w K := by
      intro a n c
      refine Sim.quiet hr (hsl (some a) n c 0 0 0 (run_bounds3 hl' hh' w)) ?_ hk
      simp only [if_true]
      exact .a (.c (.s (.empty0 a)))
    rcases hx.slice with ⟨lc, hlc, rfl⟩ | ⟨rfl, rfl, rfl, rfl, a, rfl⟩ | ⟨rfl, rfl, rfl, rfl, a, c', rfl⟩ <;> exact he _ _ _
  · obtain rfl : cmx = none := hmxN rfl rfl
    obtain ⟨hl, hh, hk⟩ := hk
    obtain rfl : cx = .slice none 0 0 := vrel_eq rfl hx
    have hl1 : loIs lo 0 := by
      unfold loIs
      split <;> simp_all
    have hh1 : hiIs hi 0 0 := by
      unfold hiIs
      split <;> simp_all
    have hb := run_bounds (P := P) true (orel_opt hlo hl1) (orel_hi hhi hh1) (Nat.le_refl 0) (Nat.le_refl 0) w
    exact Sim.quiet hr (hsl none 0 0 0 0 0 hb) (.a (.c (.s .sliceNil))) hk
  · obtain ⟨hl, hh, hk⟩ := hk
    obtain rfl : cx = .slice none 0 0 := vrel_eq rfl hx
    have hmx' : ∃ k, cmx = some (.int k 0) := by
      rcases hmx with ⟨h, _⟩ | ⟨v, cv, h, h', hv⟩
      · cases h
      · cases h; obtain rfl := hv.int; exact ⟨_, h'⟩
    obtain ⟨k, rfl⟩ := hmx'
    have hl' : (match clo with | some (.int _ i) => i = 0 | none => True | _ => False) := by
      rcases hlo with ⟨rfl, rfl⟩ | ⟨v, cv, rfl, rfl, hv⟩
      · trivial
      · cases v <;> simp at hl
        obtain rfl := hv.int; exact hl
    have hh' : (match chi with | some (.int _ i) => i = 0 | _ => False) := by
      rcases hhi with ⟨rfl, rfl⟩ | ⟨v, cv, rfl, rfl, hv⟩
      · exact hh
      · cases v <;> simp at hh
        obtain rfl := hv.int; exact hh
    exact Sim.quiet hr (hsl none 0 0 0 0 0 (run_bounds3 hl' hh' w)) (.a (.c (.s .sliceNil))) hk
  · exact hk.elim
end
end Go.Proofs.YtjdhldfeflmneaaGreat.AM
