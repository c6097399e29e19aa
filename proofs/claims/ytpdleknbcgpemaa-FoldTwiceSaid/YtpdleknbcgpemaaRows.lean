/-
  No cell of these rows narrows 'for every input' (looked for: loops, veiled, ifaces, maps, wideKeys, modest, calm, conditions, laid).
  DERIVED. THE GIVEN ROWS OF THIS SEAT. 5 by the template 'for every input the law returns true; each argument reads behind the call as it read before'; 0 by the template 'total and deterministic' (their statements: YtpdleknbcgpemaaTotals.lean).
  GIVEN WITH THE SEED: the statements are not yours to turn. If you find one false, say at which input.
  Laid BY PROGRAM, IN A SANDBOX (cutbox-rows.mjs): the forced cells as the released guide's own fill.sh prints them over the translation 7592127b45b85f5f… (all of the seat's roots in one cut). By AI agents, Wed Nov 11 2026. No macro, syntax, notation, axiom, sorry.
-/
import Derived.Test.YtpdleknbcgpemaaChecked
import GoSem.Claim
import GoSem.ClaimJoined
import GoSem.ClaimMapViews
import Derived.JoinedTies
import Derived.KernelRfl
namespace Go.Proofs.Ytpdleknbcgpemaa
/- THE CELL 'sum', in the pinned program and in every row, IS THE sha256 OF THE DUMP (.gsa) THAT YtpdleknbcgpemaaProg.lean LOADS. Nothing in Lean hashes anything: it is a label: what it is worth is what the hold of that sum in a sandbox is worth. -/
noncomputable def Try.pinned : Pinned := { name := "ytpdleknbcgpemaa", sum := "7592127b45b85f5fe359ae3df729dc05bda603f7ede7b5d451ef62dd2c64b651", checked := Try.checked }
namespace Rows
def none {H : Type} : Left H := { results := [], args := [] }

/-- 'tincturelaw24.DropGood': WHATEVER THE INPUT: true; the input reads as it did. -/
def dropGoodSpec : ChangeSpec := { name := "dropGood", fn := fun _ => fun
  | [d] => { results := [.lit (.bool true)], args := [d] }
  | _ => none }
def dropGoodRow : OpenClaim := { program := "ytpdleknbcgpemaa", sum := "7592127b45b85f5fe359ae3df729dc05bda603f7ede7b5d451ef62dd2c64b651", func := "tincture/tincturelaw24.DropGood", spec := "dropGood", unfollowed := true, recurses := true, apart := false }
def DropGoodSaid : Prop := dropGoodRow.holds Try.pinned (OpenSpec.ofChange dropGoodSpec)

/-- ITS FALSE NEIGHBOUR: 'it returns false'. Refute it at one input. -/
def dropGoodWrong : ChangeSpec := { name := "dropGood", fn := fun _ => fun
  | [d] => { results := [.lit (.bool false)], args := [d] }
  | _ => none }
def DropGoodWrongFalsely : Prop := dropGoodRow.holds Try.pinned (OpenSpec.ofChange dropGoodWrong)

/-- 'tincturelaw24.DropTwice': WHATEVER THE INPUT: true; the input reads as it did. -/
def dropTwiceSpec : ChangeSpec := { name := "dropTwice", fn := fun _ => fun
  | [d] => { results := [.lit (.bool true)], args := [d] }
  | _ => none }
def dropTwiceRow : OpenClaim := { program := "ytpdleknbcgpemaa", sum := "7592127b45b85f5fe359ae3df729dc05bda603f7ede7b5d451ef62dd2c64b651", func := "tincture/tincturelaw24.DropTwice", spec := "dropTwice", unfollowed := true, recurses := true, apart := false }
def DropTwiceSaid : Prop := dropTwiceRow.holds Try.pinned (OpenSpec.ofChange dropTwiceSpec)

/-- ITS FALSE NEIGHBOUR: 'it returns false'. Refute it at one input. -/
def dropTwiceWrong : ChangeSpec := { name := "dropTwice", fn := fun _ => fun
  | [d] => { results := [.lit (.bool false)], args := [d] }
  | _ => none }
def DropTwiceWrongFalsely : Prop := dropTwiceRow.holds Try.pinned (OpenSpec.ofChange dropTwiceWrong)

/-- 'tincturelaw23.FoldGood': WHATEVER THE INPUT: true; the input reads as it did. -/
def foldGoodSpec : ChangeSpec := { name := "foldGood", fn := fun _ => fun
  | [d] => { results := [.lit (.bool true)], args := [d] }
  | _ => none }
def foldGoodRow : OpenClaim := { program := "ytpdleknbcgpemaa", sum := "7592127b45b85f5fe359ae3df729dc05bda603f7ede7b5d451ef62dd2c64b651", func := "tincture/tincturelaw23.FoldGood", spec := "foldGood", unfollowed := true, recurses := true, apart := false }
def FoldGoodSaid : Prop := foldGoodRow.holds Try.pinned (OpenSpec.ofChange foldGoodSpec)

/-- ITS FALSE NEIGHBOUR: 'it returns false'. Refute it at one input. -/
def foldGoodWrong : ChangeSpec := { name := "foldGood", fn := fun _ => fun
  | [d] => { results := [.lit (.bool false)], args := [d] }
  | _ => none }
def FoldGoodWrongFalsely : Prop := foldGoodRow.holds Try.pinned (OpenSpec.ofChange foldGoodWrong)

/-- 'tincturelaw23.FoldTwice': WHATEVER THE INPUT: true; the input reads as it did. -/
def foldTwiceSpec : ChangeSpec := { name := "foldTwice", fn := fun _ => fun
  | [d] => { results := [.lit (.bool true)], args := [d] }
  | _ => none }
def foldTwiceRow : OpenClaim := { program := "ytpdleknbcgpemaa", sum := "7592127b45b85f5fe359ae3df729dc05bda603f7ede7b5d451ef62dd2c64b651", func := "tincture/tincturelaw23.FoldTwice", spec := "foldTwice", unfollowed := true, recurses := true, apart := false }
def FoldTwiceSaid : Prop := foldTwiceRow.holds Try.pinned (OpenSpec.ofChange foldTwiceSpec)

/-- ITS FALSE NEIGHBOUR: 'it returns false'. Refute it at one input. -/
def foldTwiceWrong : ChangeSpec := { name := "foldTwice", fn := fun _ => fun
  | [d] => { results := [.lit (.bool false)], args := [d] }
  | _ => none }
def FoldTwiceWrongFalsely : Prop := foldTwiceRow.holds Try.pinned (OpenSpec.ofChange foldTwiceWrong)

/-- 'tincturelaw24.DropFolds': WHATEVER THE INPUT: true; the input reads as it did. -/
def dropFoldsSpec : ChangeSpec := { name := "dropFolds", fn := fun _ => fun
  | [d] => { results := [.lit (.bool true)], args := [d] }
  | _ => none }
def dropFoldsRow : OpenClaim := { program := "ytpdleknbcgpemaa", sum := "7592127b45b85f5fe359ae3df729dc05bda603f7ede7b5d451ef62dd2c64b651", func := "tincture/tincturelaw24.DropFolds", spec := "dropFolds", unfollowed := true, recurses := true, apart := false }
def DropFoldsSaid : Prop := dropFoldsRow.holds Try.pinned (OpenSpec.ofChange dropFoldsSpec)

/-- ITS FALSE NEIGHBOUR: 'it returns false'. Refute it at one input. -/
def dropFoldsWrong : ChangeSpec := { name := "dropFolds", fn := fun _ => fun
  | [d] => { results := [.lit (.bool false)], args := [d] }
  | _ => none }
def DropFoldsWrongFalsely : Prop := dropFoldsRow.holds Try.pinned (OpenSpec.ofChange dropFoldsWrong)

/- THE SECOND FORM. 'bulk': how many values and letters a reading holds, each counted each time it is reached (what is shared counts as often as it is met; a slice's spare places count too). A statement '..UptoSaid' is the law's where the arguments, and the package variables that the reading takes, are together of bulk at most 1048576: NARROWER than '..Said'. Prove '..Said' where nothing that the law and all that it calls make is longer than what came in: it says more and counts as full. Else prove '..UptoSaid'. A law counts once. -/
mutual
def uptoBulk {H : Type} : DataW H → Nat
  | .lit (.string bytes) => bytes.length + 1
  | .lit _ => 1
  | .nil => 1
  | .ptr d => uptoBulk d + 1
  | .slice elems spare => uptoBulkAll elems + uptoBulkAll spare + 1
  | .agg parts => uptoBulkAll parts + 1
  | .iface _ d => uptoBulk d + 1
  | .map entries => uptoBulkEntries entries + 1
  | .held _ => 1
def uptoBulkAll {H : Type} : List (DataW H) → Nat
  | [] => 0
  | d :: r => uptoBulk d + uptoBulkAll r
def uptoBulkEntries {H : Type} : List (Lit × DataW H) → Nat
  | [] => 0
  | x :: r => uptoBulkEntry x + uptoBulkEntries r
def uptoBulkEntry {H : Type} : Lit × DataW H → Nat
  | (.string bytes, d) => bytes.length + uptoBulk d + 1
  | (_, d) => uptoBulk d + 1
 end
def uptoSmall : (H : Type) → List (DataW H) → Bool := fun _ ds => decide (uptoBulkAll ds ≤ 1048576)
def OpenSpec.upto (s : _root_.Go.ChangeSpec) : _root_.Go.OpenSpec := { _root_.Go.OpenSpec.ofChange s with cond := some uptoSmall }

/-- 'tincturelaw24.DropGood', WHERE WHAT IT READS IS OF BULK AT MOST 1048576: true; the input reads as it did. -/
def dropGoodUptoRow : OpenClaim := { program := "ytpdleknbcgpemaa", sum := "7592127b45b85f5fe359ae3df729dc05bda603f7ede7b5d451ef62dd2c64b651", func := "tincture/tincturelaw24.DropGood", spec := "dropGood", unfollowed := true, recurses := true, apart := false, narrowed := true }
def DropGoodUptoSaid : Prop := dropGoodUptoRow.holds Try.pinned (OpenSpec.upto dropGoodSpec)

/-- 'tincturelaw24.DropTwice', WHERE WHAT IT READS IS OF BULK AT MOST 1048576: true; the input reads as it did. -/
def dropTwiceUptoRow : OpenClaim := { program := "ytpdleknbcgpemaa", sum := "7592127b45b85f5fe359ae3df729dc05bda603f7ede7b5d451ef62dd2c64b651", func := "tincture/tincturelaw24.DropTwice", spec := "dropTwice", unfollowed := true, recurses := true, apart := false, narrowed := true }
def DropTwiceUptoSaid : Prop := dropTwiceUptoRow.holds Try.pinned (OpenSpec.upto dropTwiceSpec)

/-- 'tincturelaw23.FoldGood', WHERE WHAT IT READS IS OF BULK AT MOST 1048576: true; the input reads as it did. -/
def foldGoodUptoRow : OpenClaim := { program := "ytpdleknbcgpemaa", sum := "7592127b45b85f5fe359ae3df729dc05bda603f7ede7b5d451ef62dd2c64b651", func := "tincture/tincturelaw23.FoldGood", spec := "foldGood", unfollowed := true, recurses := true, apart := false, narrowed := true }
def FoldGoodUptoSaid : Prop := foldGoodUptoRow.holds Try.pinned (OpenSpec.upto foldGoodSpec)

/-- 'tincturelaw23.FoldTwice', WHERE WHAT IT READS IS OF BULK AT MOST 1048576: true; the input reads as it did. -/
def foldTwiceUptoRow : OpenClaim := { program := "ytpdleknbcgpemaa", sum := "7592127b45b85f5fe359ae3df729dc05bda603f7ede7b5d451ef62dd2c64b651", func := "tincture/tincturelaw23.FoldTwice", spec := "foldTwice", unfollowed := true, recurses := true, apart := false, narrowed := true }
def FoldTwiceUptoSaid : Prop := foldTwiceUptoRow.holds Try.pinned (OpenSpec.upto foldTwiceSpec)

/-- 'tincturelaw24.DropFolds', WHERE WHAT IT READS IS OF BULK AT MOST 1048576: true; the input reads as it did. -/
def dropFoldsUptoRow : OpenClaim := { program := "ytpdleknbcgpemaa", sum := "7592127b45b85f5fe359ae3df729dc05bda603f7ede7b5d451ef62dd2c64b651", func := "tincture/tincturelaw24.DropFolds", spec := "dropFolds", unfollowed := true, recurses := true, apart := false, narrowed := true }
def DropFoldsUptoSaid : Prop := dropFoldsUptoRow.holds Try.pinned (OpenSpec.upto dropFoldsSpec)

end Rows
end Go.Proofs.Ytpdleknbcgpemaa
