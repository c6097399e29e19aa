/-
  No cell of these rows narrows 'for every input' (looked for: loops, veiled, ifaces, maps, wideKeys, modest, calm, conditions, laid).
  DERIVED. THE GIVEN ROWS OF THIS SEAT. 5 by the template 'for every input the law returns true; each argument reads behind the call as it read before'; 0 by the template 'total and deterministic' (their statements: YtdjjacjamgmdgaaGreatTotals.lean).
  GIVEN WITH THE SEED: the statements are not yours to turn. If you find one false, say at which input.
  Laid BY PROGRAM, IN A SANDBOX (cutbox-rows.mjs): the forced cells as the released guide's own fill.sh prints them over the translation b1f435bd15ef3ce3… (all of the seat's roots in one cut). By AI agents, Wed Nov 11 2026. No macro, syntax, notation, axiom, sorry.
-/
import Derived.Test.YtdjjacjamgmdgaaGreatChecked
import GoSem.Claim
import GoSem.ClaimJoined
import GoSem.ClaimMapViews
import Derived.JoinedTies
import Derived.KernelRfl
namespace Go.Proofs.YtdjjacjamgmdgaaGreat
/- THE CELL 'sum', in the pinned program and in every row, IS THE sha256 OF THE DUMP (.gsa) THAT YtdjjacjamgmdgaaGreatProg.lean LOADS. Nothing in Lean hashes anything: it is a label: what it is worth is what the hold of that sum in a sandbox is worth. -/
noncomputable def Tryz.pinned : Pinned := { name := "ytdjjacjamgmdgaagreat", sum := "b1f435bd15ef3ce386c6c38aee79cd2e87b83026b8235ded26713facb17d1dcc", checked := Tryz.checked }
namespace Rows
def none {H : Type} : Left H := { results := [], args := [] }

/-- 'tincturelaw20.ExecKnown': WHATEVER THE INPUT: true; the input reads as it did. -/
def execKnownSpec : ChangeSpec := { name := "execKnown", fn := fun _ => fun
  | [] => { results := [.lit (.bool true)], args := [] }
  | _ => none }
def execKnownRow : OpenClaim := { program := "ytdjjacjamgmdgaagreat", sum := "b1f435bd15ef3ce386c6c38aee79cd2e87b83026b8235ded26713facb17d1dcc", func := "tincture/tincturelaw20.ExecKnown", spec := "execKnown", inPlace := ["internal/bytealg.IndexByteString"], unfollowed := true, recurses := true, apart := false }
def ExecKnownSaid : Prop := execKnownRow.holds Tryz.pinned (OpenSpec.ofChange execKnownSpec)

/-- ITS FALSE NEIGHBOUR: 'it returns false'. Refute it at one input. -/
def execKnownWrong : ChangeSpec := { name := "execKnown", fn := fun _ => fun
  | [] => { results := [.lit (.bool false)], args := [] }
  | _ => none }
def ExecKnownWrongFalsely : Prop := execKnownRow.holds Tryz.pinned (OpenSpec.ofChange execKnownWrong)

/-- 'tincturelaw20.ExecMarks': WHATEVER THE INPUT: true; the input reads as it did. -/
def execMarksSpec : ChangeSpec := { name := "execMarks", fn := fun _ => fun
  | [d1, d2, d3, d4] => { results := [.lit (.bool true)], args := [d1, d2, d3, d4] }
  | _ => none }
def execMarksRow : OpenClaim := { program := "ytdjjacjamgmdgaagreat", sum := "b1f435bd15ef3ce386c6c38aee79cd2e87b83026b8235ded26713facb17d1dcc", func := "tincture/tincturelaw20.ExecMarks", spec := "execMarks", inPlace := ["internal/bytealg.IndexByteString"], unfollowed := true, recurses := true, apart := false }
def ExecMarksSaid : Prop := execMarksRow.holds Tryz.pinned (OpenSpec.ofChange execMarksSpec)

/-- ITS FALSE NEIGHBOUR: 'it returns false'. Refute it at one input. -/
def execMarksWrong : ChangeSpec := { name := "execMarks", fn := fun _ => fun
  | [d1, d2, d3, d4] => { results := [.lit (.bool false)], args := [d1, d2, d3, d4] }
  | _ => none }
def ExecMarksWrongFalsely : Prop := execMarksRow.holds Tryz.pinned (OpenSpec.ofChange execMarksWrong)

/-- 'tincturelaw20.ExecZero': WHATEVER THE INPUT: true; the input reads as it did. -/
def execZeroSpec : ChangeSpec := { name := "execZero", fn := fun _ => fun
  | [d1, d2] => { results := [.lit (.bool true)], args := [d1, d2] }
  | _ => none }
def execZeroRow : OpenClaim := { program := "ytdjjacjamgmdgaagreat", sum := "b1f435bd15ef3ce386c6c38aee79cd2e87b83026b8235ded26713facb17d1dcc", func := "tincture/tincturelaw20.ExecZero", spec := "execZero", inPlace := ["internal/bytealg.IndexByteString"], unfollowed := true, recurses := true, apart := false }
def ExecZeroSaid : Prop := execZeroRow.holds Tryz.pinned (OpenSpec.ofChange execZeroSpec)

/-- ITS FALSE NEIGHBOUR: 'it returns false'. Refute it at one input. -/
def execZeroWrong : ChangeSpec := { name := "execZero", fn := fun _ => fun
  | [d1, d2] => { results := [.lit (.bool false)], args := [d1, d2] }
  | _ => none }
def ExecZeroWrongFalsely : Prop := execZeroRow.holds Tryz.pinned (OpenSpec.ofChange execZeroWrong)

/-- 'tincturelaw24.DropKnown': WHATEVER THE INPUT: true; the input reads as it did. -/
def dropKnownSpec : ChangeSpec := { name := "dropKnown", fn := fun _ => fun
  | [] => { results := [.lit (.bool true)], args := [] }
  | _ => none }
def dropKnownRow : OpenClaim := { program := "ytdjjacjamgmdgaagreat", sum := "b1f435bd15ef3ce386c6c38aee79cd2e87b83026b8235ded26713facb17d1dcc", func := "tincture/tincturelaw24.DropKnown", spec := "dropKnown", inPlace := ["internal/bytealg.IndexByteString"], unfollowed := true, recurses := true, apart := false }
def DropKnownSaid : Prop := dropKnownRow.holds Tryz.pinned (OpenSpec.ofChange dropKnownSpec)

/-- ITS FALSE NEIGHBOUR: 'it returns false'. Refute it at one input. -/
def dropKnownWrong : ChangeSpec := { name := "dropKnown", fn := fun _ => fun
  | [] => { results := [.lit (.bool false)], args := [] }
  | _ => none }
def DropKnownWrongFalsely : Prop := dropKnownRow.holds Tryz.pinned (OpenSpec.ofChange dropKnownWrong)

/-- 'tincturelaw23.FoldKnown': WHATEVER THE INPUT: true; the input reads as it did. -/
def foldKnownSpec : ChangeSpec := { name := "foldKnown", fn := fun _ => fun
  | [] => { results := [.lit (.bool true)], args := [] }
  | _ => none }
def foldKnownRow : OpenClaim := { program := "ytdjjacjamgmdgaagreat", sum := "b1f435bd15ef3ce386c6c38aee79cd2e87b83026b8235ded26713facb17d1dcc", func := "tincture/tincturelaw23.FoldKnown", spec := "foldKnown", inPlace := ["internal/bytealg.IndexByteString"], unfollowed := true, recurses := true, apart := false }
def FoldKnownSaid : Prop := foldKnownRow.holds Tryz.pinned (OpenSpec.ofChange foldKnownSpec)

/-- ITS FALSE NEIGHBOUR: 'it returns false'. Refute it at one input. -/
def foldKnownWrong : ChangeSpec := { name := "foldKnown", fn := fun _ => fun
  | [] => { results := [.lit (.bool false)], args := [] }
  | _ => none }
def FoldKnownWrongFalsely : Prop := foldKnownRow.holds Tryz.pinned (OpenSpec.ofChange foldKnownWrong)

/- THE SECOND FORM. 'bulk': how many values and letters a reading holds, each counted each time it is reached (what is shared counts as often as it is met; a slice's spare places count too). A statement '..UptoSaid' is the law's where the arguments, and the package variables that the reading takes, are together of bulk at most 1048576: NARROWER than '..Said'. Prove '..Said' where nothing that the law and all that it calls make is longer than what came in: it says more and counts as full. Else prove '..UptoSaid'. A law counts once. -/
mutual
def uptoBulk {H : Type} : DataW H → Nat
  | .lit (.string bytes) => bytes.length + 1
  | .lit _ => 1
  | .nil => 1
  | .ptr d => uptoBulk d + 1
  | .slice elems spare => uptoBulkAll elems + uptoBulkAll spare + 1
  | .agg parts => uptoBulkAll parts + 1
  | .iface _ d => uptoBulk d + 1
  | .map entries => uptoBulkEntries entries + 1
  | .held _ => 1
def uptoBulkAll {H : Type} : List (DataW H) → Nat
  | [] => 0
  | d :: r => uptoBulk d + uptoBulkAll r
def uptoBulkEntries {H : Type} : List (Lit × DataW H) → Nat
  | [] => 0
  | x :: r => uptoBulkEntry x + uptoBulkEntries r
def uptoBulkEntry {H : Type} : Lit × DataW H → Nat
  | (.string bytes, d) => bytes.length + uptoBulk d + 1
  | (_, d) => uptoBulk d + 1
 end
def uptoSmall : (H : Type) → List (DataW H) → Bool := fun _ ds => decide (uptoBulkAll ds ≤ 1048576)
def OpenSpec.upto (s : _root_.Go.ChangeSpec) : _root_.Go.OpenSpec := { _root_.Go.OpenSpec.ofChange s with cond := some uptoSmall }

/-- 'tincturelaw20.ExecKnown', WHERE WHAT IT READS IS OF BULK AT MOST 1048576: true; the input reads as it did. -/
def execKnownUptoRow : OpenClaim := { program := "ytdjjacjamgmdgaagreat", sum := "b1f435bd15ef3ce386c6c38aee79cd2e87b83026b8235ded26713facb17d1dcc", func := "tincture/tincturelaw20.ExecKnown", spec := "execKnown", inPlace := ["internal/bytealg.IndexByteString"], unfollowed := true, recurses := true, apart := false, narrowed := true }
def ExecKnownUptoSaid : Prop := execKnownUptoRow.holds Tryz.pinned (OpenSpec.upto execKnownSpec)

/-- 'tincturelaw20.ExecMarks', WHERE WHAT IT READS IS OF BULK AT MOST 1048576: true; the input reads as it did. -/
def execMarksUptoRow : OpenClaim := { program := "ytdjjacjamgmdgaagreat", sum := "b1f435bd15ef3ce386c6c38aee79cd2e87b83026b8235ded26713facb17d1dcc", func := "tincture/tincturelaw20.ExecMarks", spec := "execMarks", inPlace := ["internal/bytealg.IndexByteString"], unfollowed := true, recurses := true, apart := false, narrowed := true }
def ExecMarksUptoSaid : Prop := execMarksUptoRow.holds Tryz.pinned (OpenSpec.upto execMarksSpec)

/-- 'tincturelaw20.ExecZero', WHERE WHAT IT READS IS OF BULK AT MOST 1048576: true; the input reads as it did. -/
def execZeroUptoRow : OpenClaim := { program := "ytdjjacjamgmdgaagreat", sum := "b1f435bd15ef3ce386c6c38aee79cd2e87b83026b8235ded26713facb17d1dcc", func := "tincture/tincturelaw20.ExecZero", spec := "execZero", inPlace := ["internal/bytealg.IndexByteString"], unfollowed := true, recurses := true, apart := false, narrowed := true }
def ExecZeroUptoSaid : Prop := execZeroUptoRow.holds Tryz.pinned (OpenSpec.upto execZeroSpec)

/-- 'tincturelaw24.DropKnown', WHERE WHAT IT READS IS OF BULK AT MOST 1048576: true; the input reads as it did. -/
def dropKnownUptoRow : OpenClaim := { program := "ytdjjacjamgmdgaagreat", sum := "b1f435bd15ef3ce386c6c38aee79cd2e87b83026b8235ded26713facb17d1dcc", func := "tincture/tincturelaw24.DropKnown", spec := "dropKnown", inPlace := ["internal/bytealg.IndexByteString"], unfollowed := true, recurses := true, apart := false, narrowed := true }
def DropKnownUptoSaid : Prop := dropKnownUptoRow.holds Tryz.pinned (OpenSpec.upto dropKnownSpec)

/-- 'tincturelaw23.FoldKnown', WHERE WHAT IT READS IS OF BULK AT MOST 1048576: true; the input reads as it did. -/
def foldKnownUptoRow : OpenClaim := { program := "ytdjjacjamgmdgaagreat", sum := "b1f435bd15ef3ce386c6c38aee79cd2e87b83026b8235ded26713facb17d1dcc", func := "tincture/tincturelaw23.FoldKnown", spec := "foldKnown", inPlace := ["internal/bytealg.IndexByteString"], unfollowed := true, recurses := true, apart := false, narrowed := true }
def FoldKnownUptoSaid : Prop := foldKnownUptoRow.holds Tryz.pinned (OpenSpec.upto foldKnownSpec)

end Rows
end Go.Proofs.YtdjjacjamgmdgaaGreat
