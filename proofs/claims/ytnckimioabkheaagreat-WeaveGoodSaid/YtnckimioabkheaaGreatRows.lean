/-
  No cell of these rows narrows 'for every input' (looked for: loops, veiled, ifaces, maps, wideKeys, modest, calm, conditions, laid).
  DERIVED. THE GIVEN ROWS OF THIS SEAT. 6 by the template 'for every input the law returns true; each argument reads behind the call as it read before'; 0 by the template 'total and deterministic' (their statements: YtnckimioabkheaaGreatTotals.lean).
  GIVEN WITH THE SEED: the statements are not yours to turn. If you find one false, say at which input.
  Laid BY PROGRAM, IN A SANDBOX (cutbox-rows.mjs): the forced cells as the released guide's own fill.sh prints them over the translation 3b69438691ad0163… (all of the seat's roots in one cut). By AI agents, Wed Nov 11 2026. No macro, syntax, notation, axiom, sorry.
-/
import Derived.Test.YtnckimioabkheaaGreatChecked
import GoSem.Claim
import GoSem.ClaimJoined
import GoSem.ClaimMapViews
import Derived.JoinedTies
import Derived.KernelRfl
namespace Go.Proofs.YtnckimioabkheaaGreat
/- THE CELL 'sum', in the pinned program and in every row, IS THE sha256 OF THE DUMP (.gsa) THAT YtnckimioabkheaaGreatProg.lean LOADS. Nothing in Lean hashes anything: it is a label: what it is worth is what the hold of that sum in a sandbox is worth. -/
noncomputable def Tryz.pinned : Pinned := { name := "ytnckimioabkheaagreat", sum := "3b69438691ad016314324d684b4c5f041a43dc7b12958d473a85cc7db581b502", checked := Tryz.checked }
namespace Rows
def none {H : Type} : Left H := { results := [], args := [] }

/-- 'tincturelaw21.LowerGood': WHATEVER THE INPUT: true; the input reads as it did. -/
def lowerGoodSpec : ChangeSpec := { name := "lowerGood", fn := fun _ => fun
  | [d1, d2, d3] => { results := [.lit (.bool true)], args := [d1, d2, d3] }
  | _ => none }
def lowerGoodRow : OpenClaim := { program := "ytnckimioabkheaagreat", sum := "3b69438691ad016314324d684b4c5f041a43dc7b12958d473a85cc7db581b502", func := "tincture/tincturelaw21.LowerGood", spec := "lowerGood", inPlace := ["internal/bytealg.IndexByteString"], unfollowed := true, recurses := true, apart := false }
def LowerGoodSaid : Prop := lowerGoodRow.holds Tryz.pinned (OpenSpec.ofChange lowerGoodSpec)

/-- ITS FALSE NEIGHBOUR: 'it returns false'. Refute it at one input. -/
def lowerGoodWrong : ChangeSpec := { name := "lowerGood", fn := fun _ => fun
  | [d1, d2, d3] => { results := [.lit (.bool false)], args := [d1, d2, d3] }
  | _ => none }
def LowerGoodWrongFalsely : Prop := lowerGoodRow.holds Tryz.pinned (OpenSpec.ofChange lowerGoodWrong)

/-- 'tincturelaw22.WeaveGood': WHATEVER THE INPUT: true; the input reads as it did. -/
def weaveGoodSpec : ChangeSpec := { name := "weaveGood", fn := fun _ => fun
  | [d1, d2, d3, d4] => { results := [.lit (.bool true)], args := [d1, d2, d3, d4] }
  | _ => none }
def weaveGoodRow : OpenClaim := { program := "ytnckimioabkheaagreat", sum := "3b69438691ad016314324d684b4c5f041a43dc7b12958d473a85cc7db581b502", func := "tincture/tincturelaw22.WeaveGood", spec := "weaveGood", inPlace := ["internal/bytealg.IndexByteString"], unfollowed := true, recurses := true, apart := false }
def WeaveGoodSaid : Prop := weaveGoodRow.holds Tryz.pinned (OpenSpec.ofChange weaveGoodSpec)

/-- ITS FALSE NEIGHBOUR: 'it returns false'. Refute it at one input. -/
def weaveGoodWrong : ChangeSpec := { name := "weaveGood", fn := fun _ => fun
  | [d1, d2, d3, d4] => { results := [.lit (.bool false)], args := [d1, d2, d3, d4] }
  | _ => none }
def WeaveGoodWrongFalsely : Prop := weaveGoodRow.holds Tryz.pinned (OpenSpec.ofChange weaveGoodWrong)

/-- 'tincturelaw20.ExecRuns': WHATEVER THE INPUT: true; the input reads as it did. -/
def execRunsSpec : ChangeSpec := { name := "execRuns", fn := fun _ => fun
  | [d1, d2, d3, d4, d5, d6, d7, d8, d9] => { results := [.lit (.bool true)], args := [d1, d2, d3, d4, d5, d6, d7, d8, d9] }
  | _ => none }
def execRunsRow : OpenClaim := { program := "ytnckimioabkheaagreat", sum := "3b69438691ad016314324d684b4c5f041a43dc7b12958d473a85cc7db581b502", func := "tincture/tincturelaw20.ExecRuns", spec := "execRuns", inPlace := ["internal/bytealg.IndexByteString"], unfollowed := true, recurses := true, apart := false }
def ExecRunsSaid : Prop := execRunsRow.holds Tryz.pinned (OpenSpec.ofChange execRunsSpec)

/-- ITS FALSE NEIGHBOUR: 'it returns false'. Refute it at one input. -/
def execRunsWrong : ChangeSpec := { name := "execRuns", fn := fun _ => fun
  | [d1, d2, d3, d4, d5, d6, d7, d8, d9] => { results := [.lit (.bool false)], args := [d1, d2, d3, d4, d5, d6, d7, d8, d9] }
  | _ => none }
def ExecRunsWrongFalsely : Prop := execRunsRow.holds Tryz.pinned (OpenSpec.ofChange execRunsWrong)

/-- 'tincturelaw24.DropSame': WHATEVER THE INPUT: true; the input reads as it did. -/
def dropSameSpec : ChangeSpec := { name := "dropSame", fn := fun _ => fun
  | [d1, d2, d3, d4, d5, d6, d7, d8, d9] => { results := [.lit (.bool true)], args := [d1, d2, d3, d4, d5, d6, d7, d8, d9] }
  | _ => none }
def dropSameRow : OpenClaim := { program := "ytnckimioabkheaagreat", sum := "3b69438691ad016314324d684b4c5f041a43dc7b12958d473a85cc7db581b502", func := "tincture/tincturelaw24.DropSame", spec := "dropSame", inPlace := ["internal/bytealg.IndexByteString", "maps.clone"], unfollowed := true, recurses := true, apart := false }
def DropSameSaid : Prop := dropSameRow.holds Tryz.pinned (OpenSpec.ofChange dropSameSpec)

/-- ITS FALSE NEIGHBOUR: 'it returns false'. Refute it at one input. -/
def dropSameWrong : ChangeSpec := { name := "dropSame", fn := fun _ => fun
  | [d1, d2, d3, d4, d5, d6, d7, d8, d9] => { results := [.lit (.bool false)], args := [d1, d2, d3, d4, d5, d6, d7, d8, d9] }
  | _ => none }
def DropSameWrongFalsely : Prop := dropSameRow.holds Tryz.pinned (OpenSpec.ofChange dropSameWrong)

/-- 'tincturelaw23.FoldSame': WHATEVER THE INPUT: true; the input reads as it did. -/
def foldSameSpec : ChangeSpec := { name := "foldSame", fn := fun _ => fun
  | [d1, d2, d3, d4, d5, d6, d7, d8, d9] => { results := [.lit (.bool true)], args := [d1, d2, d3, d4, d5, d6, d7, d8, d9] }
  | _ => none }
def foldSameRow : OpenClaim := { program := "ytnckimioabkheaagreat", sum := "3b69438691ad016314324d684b4c5f041a43dc7b12958d473a85cc7db581b502", func := "tincture/tincturelaw23.FoldSame", spec := "foldSame", inPlace := ["internal/bytealg.IndexByteString", "maps.clone"], unfollowed := true, recurses := true, apart := false }
def FoldSameSaid : Prop := foldSameRow.holds Tryz.pinned (OpenSpec.ofChange foldSameSpec)

/-- ITS FALSE NEIGHBOUR: 'it returns false'. Refute it at one input. -/
def foldSameWrong : ChangeSpec := { name := "foldSame", fn := fun _ => fun
  | [d1, d2, d3, d4, d5, d6, d7, d8, d9] => { results := [.lit (.bool false)], args := [d1, d2, d3, d4, d5, d6, d7, d8, d9] }
  | _ => none }
def FoldSameWrongFalsely : Prop := foldSameRow.holds Tryz.pinned (OpenSpec.ofChange foldSameWrong)

/-- 'tincturelaw24.DropBoth': WHATEVER THE INPUT: true; the input reads as it did. -/
def dropBothSpec : ChangeSpec := { name := "dropBoth", fn := fun _ => fun
  | [d1, d2, d3, d4, d5, d6, d7] => { results := [.lit (.bool true)], args := [d1, d2, d3, d4, d5, d6, d7] }
  | _ => none }
def dropBothRow : OpenClaim := { program := "ytnckimioabkheaagreat", sum := "3b69438691ad016314324d684b4c5f041a43dc7b12958d473a85cc7db581b502", func := "tincture/tincturelaw24.DropBoth", spec := "dropBoth", inPlace := ["internal/bytealg.IndexByteString", "maps.clone"], unfollowed := true, recurses := true, apart := false }
def DropBothSaid : Prop := dropBothRow.holds Tryz.pinned (OpenSpec.ofChange dropBothSpec)

/-- ITS FALSE NEIGHBOUR: 'it returns false'. Refute it at one input. -/
def dropBothWrong : ChangeSpec := { name := "dropBoth", fn := fun _ => fun
  | [d1, d2, d3, d4, d5, d6, d7] => { results := [.lit (.bool false)], args := [d1, d2, d3, d4, d5, d6, d7] }
  | _ => none }
def DropBothWrongFalsely : Prop := dropBothRow.holds Tryz.pinned (OpenSpec.ofChange dropBothWrong)

/- THE SECOND FORM. 'bulk': how many values and letters a reading holds, each counted each time it is reached (what is shared counts as often as it is met; a slice's spare places count too). A statement '..UptoSaid' is the law's where the arguments, and the package variables that the reading takes, are together of bulk at most 1048576: NARROWER than '..Said'. Prove '..Said' where nothing that the law and all that it calls make is longer than what came in: it says more and counts as full. Else prove '..UptoSaid'. A law counts once. -/
mutual
def uptoBulk {H : Type} : DataW H → Nat
  | .lit (.string bytes) => bytes.length + 1
  | .lit _ => 1
  | .nil => 1
  | .ptr d => uptoBulk d + 1
  | .slice elems spare => uptoBulkAll elems + uptoBulkAll spare + 1
  | .agg parts => uptoBulkAll parts + 1
  | .iface _ d => uptoBulk d + 1
  | .map entries => uptoBulkEntries entries + 1
  | .held _ => 1
def uptoBulkAll {H : Type} : List (DataW H) → Nat
  | [] => 0
  | d :: r => uptoBulk d + uptoBulkAll r
def uptoBulkEntries {H : Type} : List (Lit × DataW H) → Nat
  | [] => 0
  | x :: r => uptoBulkEntry x + uptoBulkEntries r
def uptoBulkEntry {H : Type} : Lit × DataW H → Nat
  | (.string bytes, d) => bytes.length + uptoBulk d + 1
  | (_, d) => uptoBulk d + 1
 end
def uptoSmall : (H : Type) → List (DataW H) → Bool := fun _ ds => decide (uptoBulkAll ds ≤ 1048576)
def OpenSpec.upto (s : _root_.Go.ChangeSpec) : _root_.Go.OpenSpec := { _root_.Go.OpenSpec.ofChange s with cond := some uptoSmall }

/-- 'tincturelaw21.LowerGood', WHERE WHAT IT READS IS OF BULK AT MOST 1048576: true; the input reads as it did. -/
def lowerGoodUptoRow : OpenClaim := { program := "ytnckimioabkheaagreat", sum := "3b69438691ad016314324d684b4c5f041a43dc7b12958d473a85cc7db581b502", func := "tincture/tincturelaw21.LowerGood", spec := "lowerGood", inPlace := ["internal/bytealg.IndexByteString"], unfollowed := true, recurses := true, apart := false, narrowed := true }
def LowerGoodUptoSaid : Prop := lowerGoodUptoRow.holds Tryz.pinned (OpenSpec.upto lowerGoodSpec)

/-- 'tincturelaw22.WeaveGood', WHERE WHAT IT READS IS OF BULK AT MOST 1048576: true; the input reads as it did. -/
def weaveGoodUptoRow : OpenClaim := { program := "ytnckimioabkheaagreat", sum := "3b69438691ad016314324d684b4c5f041a43dc7b12958d473a85cc7db581b502", func := "tincture/tincturelaw22.WeaveGood", spec := "weaveGood", inPlace := ["internal/bytealg.IndexByteString"], unfollowed := true, recurses := true, apart := false, narrowed := true }
def WeaveGoodUptoSaid : Prop := weaveGoodUptoRow.holds Tryz.pinned (OpenSpec.upto weaveGoodSpec)

/-- 'tincturelaw20.ExecRuns', WHERE WHAT IT READS IS OF BULK AT MOST 1048576: true; the input reads as it did. -/
def execRunsUptoRow : OpenClaim := { program := "ytnckimioabkheaagreat", sum := "3b69438691ad016314324d684b4c5f041a43dc7b12958d473a85cc7db581b502", func := "tincture/tincturelaw20.ExecRuns", spec := "execRuns", inPlace := ["internal/bytealg.IndexByteString"], unfollowed := true, recurses := true, apart := false, narrowed := true }
def ExecRunsUptoSaid : Prop := execRunsUptoRow.holds Tryz.pinned (OpenSpec.upto execRunsSpec)

/-- 'tincturelaw24.DropSame', WHERE WHAT IT READS IS OF BULK AT MOST 1048576: true; the input reads as it did. -/
def dropSameUptoRow : OpenClaim := { program := "ytnckimioabkheaagreat", sum := "3b69438691ad016314324d684b4c5f041a43dc7b12958d473a85cc7db581b502", func := "tincture/tincturelaw24.DropSame", spec := "dropSame", inPlace := ["internal/bytealg.IndexByteString", "maps.clone"], unfollowed := true, recurses := true, apart := false, narrowed := true }
def DropSameUptoSaid : Prop := dropSameUptoRow.holds Tryz.pinned (OpenSpec.upto dropSameSpec)

/-- 'tincturelaw23.FoldSame', WHERE WHAT IT READS IS OF BULK AT MOST 1048576: true; the input reads as it did. -/
def foldSameUptoRow : OpenClaim := { program := "ytnckimioabkheaagreat", sum := "3b69438691ad016314324d684b4c5f041a43dc7b12958d473a85cc7db581b502", func := "tincture/tincturelaw23.FoldSame", spec := "foldSame", inPlace := ["internal/bytealg.IndexByteString", "maps.clone"], unfollowed := true, recurses := true, apart := false, narrowed := true }
def FoldSameUptoSaid : Prop := foldSameUptoRow.holds Tryz.pinned (OpenSpec.upto foldSameSpec)

/-- 'tincturelaw24.DropBoth', WHERE WHAT IT READS IS OF BULK AT MOST 1048576: true; the input reads as it did. -/
def dropBothUptoRow : OpenClaim := { program := "ytnckimioabkheaagreat", sum := "3b69438691ad016314324d684b4c5f041a43dc7b12958d473a85cc7db581b502", func := "tincture/tincturelaw24.DropBoth", spec := "dropBoth", inPlace := ["internal/bytealg.IndexByteString", "maps.clone"], unfollowed := true, recurses := true, apart := false, narrowed := true }
def DropBothUptoSaid : Prop := dropBothUptoRow.holds Tryz.pinned (OpenSpec.upto dropBothSpec)

end Rows
end Go.Proofs.YtnckimioabkheaaGreat
