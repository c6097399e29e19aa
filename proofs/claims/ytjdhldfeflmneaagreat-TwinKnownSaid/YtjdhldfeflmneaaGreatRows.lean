/-
  No cell of these rows narrows 'for every input' (looked for: loops, veiled, ifaces, maps, wideKeys, modest, calm, conditions, laid).
  DERIVED. THE GIVEN ROWS OF THIS SEAT. 5 by the template 'for every input the law returns true; each argument reads behind the call as it read before'; 0 by the template 'total and deterministic' (their statements: YtjdhldfeflmneaaGreatTotals.lean).
  GIVEN WITH THE SEED: the statements are not yours to turn. If you find one false, say at which input.
  Laid BY PROGRAM, IN A SANDBOX (cutbox-rows.mjs): the forced cells as the released guide's own fill.sh prints them over the translation 9b08092a565edc67… (all of the seat's roots in one cut). By AI agents, Wed Nov 11 2026. No macro, syntax, notation, axiom, sorry.
-/
import Derived.Test.YtjdhldfeflmneaaGreatChecked
import GoSem.Claim
import GoSem.ClaimJoined
import GoSem.ClaimMapViews
import Derived.JoinedTies
import Derived.KernelRfl
namespace Go.Proofs.YtjdhldfeflmneaaGreat
/- THE CELL 'sum', in the pinned program and in every row, IS THE sha256 OF THE DUMP (.gsa) THAT YtjdhldfeflmneaaGreatProg.lean LOADS. Nothing in Lean hashes anything: it is a label: what it is worth is what the hold of that sum in a sandbox is worth. -/
noncomputable def Tryz.pinned : Pinned := { name := "ytjdhldfeflmneaagreat", sum := "9b08092a565edc67e30a9ce2a7e6762e15b5cef5f9e35ea10803457978c91e4a", checked := Tryz.checked }
namespace Rows
def none {H : Type} : Left H := { results := [], args := [] }

/-- 'tincturelaw21.LowerKnown': WHATEVER THE INPUT: true; the input reads as it did. -/
def lowerKnownSpec : ChangeSpec := { name := "lowerKnown", fn := fun _ => fun
  | [] => { results := [.lit (.bool true)], args := [] }
  | _ => none }
def lowerKnownRow : OpenClaim := { program := "ytjdhldfeflmneaagreat", sum := "9b08092a565edc67e30a9ce2a7e6762e15b5cef5f9e35ea10803457978c91e4a", func := "tincture/tincturelaw21.LowerKnown", spec := "lowerKnown", inPlace := ["internal/bytealg.IndexByteString"], unfollowed := true, recurses := true, apart := false }
def LowerKnownSaid : Prop := lowerKnownRow.holds Tryz.pinned (OpenSpec.ofChange lowerKnownSpec)

/-- ITS FALSE NEIGHBOUR: 'it returns false'. Refute it at one input. -/
def lowerKnownWrong : ChangeSpec := { name := "lowerKnown", fn := fun _ => fun
  | [] => { results := [.lit (.bool false)], args := [] }
  | _ => none }
def LowerKnownWrongFalsely : Prop := lowerKnownRow.holds Tryz.pinned (OpenSpec.ofChange lowerKnownWrong)

/-- 'tincturelaw22.WeaveKnown': WHATEVER THE INPUT: true; the input reads as it did. -/
def weaveKnownSpec : ChangeSpec := { name := "weaveKnown", fn := fun _ => fun
  | [] => { results := [.lit (.bool true)], args := [] }
  | _ => none }
def weaveKnownRow : OpenClaim := { program := "ytjdhldfeflmneaagreat", sum := "9b08092a565edc67e30a9ce2a7e6762e15b5cef5f9e35ea10803457978c91e4a", func := "tincture/tincturelaw22.WeaveKnown", spec := "weaveKnown", inPlace := ["internal/bytealg.IndexByteString", "maps.clone"], unfollowed := true, recurses := true, apart := false }
def WeaveKnownSaid : Prop := weaveKnownRow.holds Tryz.pinned (OpenSpec.ofChange weaveKnownSpec)

/-- ITS FALSE NEIGHBOUR: 'it returns false'. Refute it at one input. -/
def weaveKnownWrong : ChangeSpec := { name := "weaveKnown", fn := fun _ => fun
  | [] => { results := [.lit (.bool false)], args := [] }
  | _ => none }
def WeaveKnownWrongFalsely : Prop := weaveKnownRow.holds Tryz.pinned (OpenSpec.ofChange weaveKnownWrong)

/-- 'tincturelaw16.PlainKnown': WHATEVER THE INPUT: true; the input reads as it did. -/
def plainKnownSpec : ChangeSpec := { name := "plainKnown", fn := fun _ => fun
  | [] => { results := [.lit (.bool true)], args := [] }
  | _ => none }
def plainKnownRow : OpenClaim := { program := "ytjdhldfeflmneaagreat", sum := "9b08092a565edc67e30a9ce2a7e6762e15b5cef5f9e35ea10803457978c91e4a", func := "tincture/tincturelaw16.PlainKnown", spec := "plainKnown", inPlace := ["internal/bytealg.IndexByteString", "maps.clone"], unfollowed := true, recurses := true, apart := false }
def PlainKnownSaid : Prop := plainKnownRow.holds Tryz.pinned (OpenSpec.ofChange plainKnownSpec)

/-- ITS FALSE NEIGHBOUR: 'it returns false'. Refute it at one input. -/
def plainKnownWrong : ChangeSpec := { name := "plainKnown", fn := fun _ => fun
  | [] => { results := [.lit (.bool false)], args := [] }
  | _ => none }
def PlainKnownWrongFalsely : Prop := plainKnownRow.holds Tryz.pinned (OpenSpec.ofChange plainKnownWrong)

/-- 'tincturelaw17.SlowKnown': WHATEVER THE INPUT: true; the input reads as it did. -/
def slowKnownSpec : ChangeSpec := { name := "slowKnown", fn := fun _ => fun
  | [] => { results := [.lit (.bool true)], args := [] }
  | _ => none }
def slowKnownRow : OpenClaim := { program := "ytjdhldfeflmneaagreat", sum := "9b08092a565edc67e30a9ce2a7e6762e15b5cef5f9e35ea10803457978c91e4a", func := "tincture/tincturelaw17.SlowKnown", spec := "slowKnown", inPlace := ["internal/bytealg.IndexByteString", "maps.clone"], unfollowed := true, recurses := true, apart := false }
def SlowKnownSaid : Prop := slowKnownRow.holds Tryz.pinned (OpenSpec.ofChange slowKnownSpec)

/-- ITS FALSE NEIGHBOUR: 'it returns false'. Refute it at one input. -/
def slowKnownWrong : ChangeSpec := { name := "slowKnown", fn := fun _ => fun
  | [] => { results := [.lit (.bool false)], args := [] }
  | _ => none }
def SlowKnownWrongFalsely : Prop := slowKnownRow.holds Tryz.pinned (OpenSpec.ofChange slowKnownWrong)

/-- 'tincturelaw27.TwinKnown': WHATEVER THE INPUT: true; the input reads as it did. -/
def twinKnownSpec : ChangeSpec := { name := "twinKnown", fn := fun _ => fun
  | [] => { results := [.lit (.bool true)], args := [] }
  | _ => none }
def twinKnownRow : OpenClaim := { program := "ytjdhldfeflmneaagreat", sum := "9b08092a565edc67e30a9ce2a7e6762e15b5cef5f9e35ea10803457978c91e4a", func := "tincture/tincturelaw27.TwinKnown", spec := "twinKnown", inPlace := ["internal/bytealg.IndexByteString", "maps.clone"], unfollowed := true, recurses := true, apart := false }
def TwinKnownSaid : Prop := twinKnownRow.holds Tryz.pinned (OpenSpec.ofChange twinKnownSpec)

/-- ITS FALSE NEIGHBOUR: 'it returns false'. Refute it at one input. -/
def twinKnownWrong : ChangeSpec := { name := "twinKnown", fn := fun _ => fun
  | [] => { results := [.lit (.bool false)], args := [] }
  | _ => none }
def TwinKnownWrongFalsely : Prop := twinKnownRow.holds Tryz.pinned (OpenSpec.ofChange twinKnownWrong)

/- THE SECOND FORM. 'bulk': how many values and letters a reading holds, each counted each time it is reached (what is shared counts as often as it is met; a slice's spare places count too). A statement '..UptoSaid' is the law's where the arguments, and the package variables that the reading takes, are together of bulk at most 1048576: NARROWER than '..Said'. Prove '..Said' where nothing that the law and all that it calls make is longer than what came in: it says more and counts as full. Else prove '..UptoSaid'. A law counts once. -/
mutual
def uptoBulk {H : Type} : DataW H → Nat
  | .lit (.string bytes) => bytes.length + 1
  | .lit _ => 1
  | .nil => 1
  | .ptr d => uptoBulk d + 1
  | .slice elems spare => uptoBulkAll elems + uptoBulkAll spare + 1
  | .agg parts => uptoBulkAll parts + 1
  | .iface _ d => uptoBulk d + 1
  | .map entries => uptoBulkEntries entries + 1
  | .held _ => 1
def uptoBulkAll {H : Type} : List (DataW H) → Nat
  | [] => 0
  | d :: r => uptoBulk d + uptoBulkAll r
def uptoBulkEntries {H : Type} : List (Lit × DataW H) → Nat
  | [] => 0
  | x :: r => uptoBulkEntry x + uptoBulkEntries r
def uptoBulkEntry {H : Type} : Lit × DataW H → Nat
  | (.string bytes, d) => bytes.length + uptoBulk d + 1
  | (_, d) => uptoBulk d + 1
 end
def uptoSmall : (H : Type) → List (DataW H) → Bool := fun _ ds => decide (uptoBulkAll ds ≤ 1048576)
def OpenSpec.upto (s : _root_.Go.ChangeSpec) : _root_.Go.OpenSpec := { _root_.Go.OpenSpec.ofChange s with cond := some uptoSmall }

/-- 'tincturelaw21.LowerKnown', WHERE WHAT IT READS IS OF BULK AT MOST 1048576: true; the input reads as it did. -/
def lowerKnownUptoRow : OpenClaim := { program := "ytjdhldfeflmneaagreat", sum := "9b08092a565edc67e30a9ce2a7e6762e15b5cef5f9e35ea10803457978c91e4a", func := "tincture/tincturelaw21.LowerKnown", spec := "lowerKnown", inPlace := ["internal/bytealg.IndexByteString"], unfollowed := true, recurses := true, apart := false, narrowed := true }
def LowerKnownUptoSaid : Prop := lowerKnownUptoRow.holds Tryz.pinned (OpenSpec.upto lowerKnownSpec)

/-- 'tincturelaw22.WeaveKnown', WHERE WHAT IT READS IS OF BULK AT MOST 1048576: true; the input reads as it did. -/
def weaveKnownUptoRow : OpenClaim := { program := "ytjdhldfeflmneaagreat", sum := "9b08092a565edc67e30a9ce2a7e6762e15b5cef5f9e35ea10803457978c91e4a", func := "tincture/tincturelaw22.WeaveKnown", spec := "weaveKnown", inPlace := ["internal/bytealg.IndexByteString", "maps.clone"], unfollowed := true, recurses := true, apart := false, narrowed := true }
def WeaveKnownUptoSaid : Prop := weaveKnownUptoRow.holds Tryz.pinned (OpenSpec.upto weaveKnownSpec)

/-- 'tincturelaw16.PlainKnown', WHERE WHAT IT READS IS OF BULK AT MOST 1048576: true; the input reads as it did. -/
def plainKnownUptoRow : OpenClaim := { program := "ytjdhldfeflmneaagreat", sum := "9b08092a565edc67e30a9ce2a7e6762e15b5cef5f9e35ea10803457978c91e4a", func := "tincture/tincturelaw16.PlainKnown", spec := "plainKnown", inPlace := ["internal/bytealg.IndexByteString", "maps.clone"], unfollowed := true, recurses := true, apart := false, narrowed := true }
def PlainKnownUptoSaid : Prop := plainKnownUptoRow.holds Tryz.pinned (OpenSpec.upto plainKnownSpec)

/-- 'tincturelaw17.SlowKnown', WHERE WHAT IT READS IS OF BULK AT MOST 1048576: true; the input reads as it did. -/
def slowKnownUptoRow : OpenClaim := { program := "ytjdhldfeflmneaagreat", sum := "9b08092a565edc67e30a9ce2a7e6762e15b5cef5f9e35ea10803457978c91e4a", func := "tincture/tincturelaw17.SlowKnown", spec := "slowKnown", inPlace := ["internal/bytealg.IndexByteString", "maps.clone"], unfollowed := true, recurses := true, apart := false, narrowed := true }
def SlowKnownUptoSaid : Prop := slowKnownUptoRow.holds Tryz.pinned (OpenSpec.upto slowKnownSpec)

/-- 'tincturelaw27.TwinKnown', WHERE WHAT IT READS IS OF BULK AT MOST 1048576: true; the input reads as it did. -/
def twinKnownUptoRow : OpenClaim := { program := "ytjdhldfeflmneaagreat", sum := "9b08092a565edc67e30a9ce2a7e6762e15b5cef5f9e35ea10803457978c91e4a", func := "tincture/tincturelaw27.TwinKnown", spec := "twinKnown", inPlace := ["internal/bytealg.IndexByteString", "maps.clone"], unfollowed := true, recurses := true, apart := false, narrowed := true }
def TwinKnownUptoSaid : Prop := twinKnownUptoRow.holds Tryz.pinned (OpenSpec.upto twinKnownSpec)

end Rows
end Go.Proofs.YtjdhldfeflmneaaGreat
