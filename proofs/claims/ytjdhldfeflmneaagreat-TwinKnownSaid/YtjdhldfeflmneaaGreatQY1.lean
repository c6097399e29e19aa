/-
  A call that was run once: what it came to.
-/
import Derived.Test.YtjdhldfeflmneaaGreatQD1
import Derived.Test.YtjdhldfeflmneaaGreatE6
import Derived.KernelRfl
namespace Go.Proofs.YtjdhldfeflmneaaGreat
open Go.Proofs.YtjdhldfeflmneaaGreat.AM
noncomputable section
def qg1_i : List (Nat × EO) := inOf [qrun1.objs] [(0, 2), (0, 3), (0, 4), (0, 5), (0, 605), (0, 7), (0, 8), (0, 9), (0, 676), (0, 11), (0, 12), (0, 13), (0, 14), (0, 602), (0, 603), (0, 604), (0, 18), (0, 19), (0, 20), (0, 673), (0, 674), (0, 675), (0, 24), (0, 25), (0, 26), (0, 27), (0, 28), (0, 29), (0, 30), (0, 31), (0, 32), (0, 33), (0, 34), (0, 35), (0, 36), (0, 37), (0, 38), (0, 39), (0, 40), (0, 41), (0, 42), (0, 43), (0, 44), (0, 45), (0, 1079), (0, 46), (0, 47), (0, 48), (0, 49), (0, 50), (0, 51), (0, 52), (0, 53), (0, 54), (0, 55), (0, 56), (0, 57), (0, 58), (0, 59), (0, 60), (0, 61), (0, 62), (0, 63), (0, 64), (0, 65), (0, 66), (0, 67), (0, 68), (0, 1146)]
def qg1 : LQ where
  f := 84
  args := [.agg (.cat (.one (Pt 2 0)) (.one (I .u8 1))), .agg (.cat (.one (Pt 3 0)) (.one (I .u8 1)))]
  inp := qg1_i
  n := 71
  v := .a (.c (I .i64 0))
  objs := dfOf qg1_i [
    ]
  n' := 73
theorem qg1_ok : LQ.Ok CC6 qg1 := ⟨by kernel_rfl, by kernel_rfl, by kernel_rfl⟩
end
end Go.Proofs.YtjdhldfeflmneaaGreat
