/-
  Calls that are run once: their arguments told by what earlier calls came to, and what they came to by what has changed.
-/
import Derived.Test.YtjdhldfeflmneaaGreatM9
namespace Go.Proofs.YtjdhldfeflmneaaGreat.AM
noncomputable section
def thL (l : List (Nat × Nat)) (b : Nat) : Nat := match assocGet l b with | some c => c | none => b
def pickO (os : List (Nat × EO)) (b : Nat) : EO := match assocGet os b with | some o => o | none => .dead
def nthS : List (List (Nat × EO)) → Nat → List (Nat × EO)
  | [], _ => []
  | a :: l, k => bc (Nat.beq k 0) a (nthS l (Nat.sub k 1))
def thOf (s : Nat) : Nat → List (Nat × Nat) → List (Nat × Nat)
  | _, [] => []
  | i, p :: l => bc (Nat.beq p.1 s) ((p.2, i) :: thOf s (Nat.add i 1) l) (thOf s (Nat.add i 1) l)
def inGo (srcs : List (List (Nat × EO))) (es : List (Nat × Nat)) : Nat → List (Nat × Nat) → List (Nat × EO)
  | _, [] => []
  | i, p :: l => (i, renO (thL (thOf p.1 2 es)) (pickO (nthS srcs p.1) p.2)) :: inGo srcs es (Nat.add i 1) l
/-- The blocks told by es (of which source, under which name there), numbered from 2. -/
def inOf (srcs : List (List (Nat × EO))) (es : List (Nat × Nat)) : List (Nat × EO) := inGo srcs es 2 es
def dfOf (inp ds : List (Nat × EO)) : List (Nat × EO) :=
  (inp.map fun p => match assocGet ds p.1 with | some o => (p.1, o) | none => p) ++ ds.filter fun p => !(inp.any fun q => Nat.beq q.1 p.1)
end
end Go.Proofs.YtjdhldfeflmneaaGreat.AM
