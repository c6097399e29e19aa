/-
  Where a law's walk begins: the memory that came in, told as blocks that are only read.
-/
import Derived.Test.YtjdhldfeflmneaaGreatAMFunc
set_option linter.unusedSimpArgs false
set_option linter.unusedVariables false
namespace Go.Proofs.YtjdhldfeflmneaaGreat.AM
open Go.RowKit

section
variable {P : Program} {W : World} {ι : Env} {h : H} {w : World}
def ι0 : Env := fun _ => none
def h0 : H := fun _ => none
theorem HRel.start (W : World) : HRel P W ι0 h0 W :=
  ⟨⟨0, fun _ _ => rfl⟩, rfl, rfl, Below.refl _ _, fun _ _ h => (by cases h), fun _ _ h => (by cases h), fun _ _ _ _ _ _ _ h => (by cases h)⟩
def ebind (ι : Env) (b : Nat) (l : Loc) : Env := fun c => if c = b then some l else ι c
theorem ebind_le {b : Nat} {l : Loc} (hb : ι b = none) : Env.le ι (ebind ι b l) := by
  intro c q hc
  have : c ≠ b := fun he => by rw [he, hb] at hc; cases hc
  simp [ebind, this, hc]
/-- A stretch of a block that came in. -/
theorem HRel.addRo (hr : HRel P W ι h w) {b : Nat} {l : Loc} {cs : List Value} {E : TypeId} {ccs : Array Value} {CE : TypeId} {fz : Nat × Nat} (h2 : 2 ≤ b) (hb : ι b = none) (hk : l.k = 0) (hh : w.heap[l.b]? = some (.cells ccs CE fz)) (hlt : l.b < W.heap.size)
    (hc : ∀ i v, cs[i]? = some v → ∃ v', ccs[l.o + i]? = some v' ∧ CRel ι v v') : HRel P W (ebind ι b l) (upd h b (.cells cs E .ro)) w := by
  have hle : Env.le ι (ebind ι b l) := ebind_le hb
  obtain ⟨n, hn⟩ := hr.nxt
  have hin : l.b < w.heap.size := by
    have := Array.getElem?_eq_some_iff.1 hh
    exact this.1
  refine ⟨⟨max n (b + 1), fun c hc => ?_⟩, ?_, ?_, hr.below, fun c q hc => ?_, fun c o hc => ?_, fun c c' o o' q q' hcc hc hc' hq hq' h1 h2' => ?_⟩
  · have : c ≠ b := by omega
    simp only [ebind, this, if_false]
    exact hn c (by omega)
  · have : (0 : Nat) ≠ b := by omega
    simp only [ebind, this, if_false]; exact hr.z0
  · have : (1 : Nat) ≠ b := by omega
    simp only [ebind, this, if_false]; exact hr.z1
  · by_cases he : c = b
    · subst he; simp only [ebind, if_true] at hc; cases hc; exact hin
    · simp only [ebind, he, if_false] at hc; exact hr.inb c q hc
  · by_cases he : c = b
    · subst he
      rw [upd_same] at hc; cases hc
      refine ⟨l, by simp [ebind], ccs, CE, fz.1, fz.2, hh, fun i v hi => ?_, fun _ => hlt, fun h => absurd rfl h, fun _ => hk, fun h => by cases h⟩
      obtain ⟨v', h1, h2⟩ := hc i v hi
      exact ⟨v', h1, h2.mono hle⟩
    · rw [upd_ne _ _ he] at hc
      obtain ⟨q, h1, h2⟩ := hr.obj c o hc
      exact ⟨q, hle _ _ h1, ORel.keep hle rfl (fun _ _ _ => .inl rfl) h2⟩
  · have n1 : c ≠ b := fun he => by rw [he, upd_same] at hc; cases hc; cases h1
    have n2 : c' ≠ b := fun he => by rw [he, upd_same] at hc'; cases hc'; cases h2'
    rw [upd_ne _ _ n1] at hc
    rw [upd_ne _ _ n2] at hc'
    simp only [ebind, n1, if_false] at hq
    simp only [ebind, n2, if_false] at hq'
    exact hr.sep c c' o o' q q' hcc hc hc' hq hq' h1 h2'
/-- From a contract over the abstract memory to the model's call: a law that answers with a value without addresses. -/
theorem calls_of {f : FuncId} {args : List Value} {cargs : Array Value} {r : Value} (hs : Spec P f args h fun v _ => v = r) (hr : HRel P W ι h W) (ha : All2 (ARel ι) args cargs.toList) (hself : ∀ ι v, VRel ι r v → v = r) :
    Calls P f cargs W fun e w' => e = .returned r ∧ Below W.heap.size W w' :=
  (hs W ι W cargs hr ha).mono fun _ _ ⟨_, cv, ι', _, h1, _, h3, h4, h5⟩ => by
    subst h5
    exact ⟨by rw [h1, hself ι' cv h4], h3.below⟩
theorem bool_self {b : Bool} (ι : Env) (v : Value) (h : VRel ι (.bool b) v) : v = .bool b := by
  cases h with
  | a h => cases h with
    | c h => cases h with
      | s h => cases h; rfl
end
end Go.Proofs.YtjdhldfeflmneaaGreat.AM
