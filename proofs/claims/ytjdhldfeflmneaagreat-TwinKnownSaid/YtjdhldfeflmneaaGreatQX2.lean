/-
  A call that was run once: what it came to.
-/
import Derived.Test.YtjdhldfeflmneaaGreatQD2
import Derived.Test.YtjdhldfeflmneaaGreatE6
import Derived.KernelRfl
namespace Go.Proofs.YtjdhldfeflmneaaGreat
open Go.Proofs.YtjdhldfeflmneaaGreat.AM
noncomputable section
def qm2_i : List (Nat × EO) := inOf [qrun2.objs] [(0, 2), (0, 3), (0, 4), (0, 5), (0, 606), (0, 7), (0, 8), (0, 9), (0, 677), (0, 11), (0, 12), (0, 13), (0, 14), (0, 603), (0, 604), (0, 605), (0, 18), (0, 19), (0, 20), (0, 674), (0, 675), (0, 676), (0, 24), (0, 25), (0, 26), (0, 27), (0, 28), (0, 29), (0, 30), (0, 31), (0, 32), (0, 33), (0, 34), (0, 35), (0, 36), (0, 37), (0, 38), (0, 39), (0, 40), (0, 41), (0, 42), (0, 43), (0, 44), (0, 45), (0, 1080), (0, 46), (0, 47), (0, 48), (0, 49), (0, 50), (0, 51), (0, 52), (0, 53), (0, 54), (0, 55), (0, 56), (0, 57), (0, 58), (0, 59), (0, 60), (0, 61), (0, 62), (0, 63), (0, 64), (0, 65), (0, 66), (0, 67), (0, 68), (0, 1147), (0, 69)]
def qm2 : LQ where
  f := 85
  args := [.agg (.cat (.one (Pt 2 0)) (.one (I .u8 1))), .agg (.cat (.one (Pt 3 0)) (.one (I .u8 1)))]
  inp := qm2_i
  n := 72
  v := .a (.c (I .i64 0))
  objs := dfOf qm2_i [
    ]
  n' := 119
theorem qm2_ok : LQ.Ok CC6 qm2 := ⟨by kernel_rfl, by kernel_rfl, by kernel_rfl⟩
end
end Go.Proofs.YtjdhldfeflmneaaGreat
