/-
  'ExecZero' by the executor: whatever the number and the label.
-/
import Derived.Test.YtdjjacjamgmdgaaGreatRun8
import Derived.KernelRfl
namespace Go.Proofs.YtdjjacjamgmdgaaGreat
open Go.Proofs.YtdjjacjamgmdgaaGreat.AM
noncomputable def zeroArgs (v a b c d : Int) : List XA := [.c (.int .u32 v), .agg (.cat (.cat (.one (.int .u8 a)) (.one (.int .u8 b))) (.cat (.one (.int .u8 c)) (.one (.int .u8 d))))]
noncomputable def runZ (v a b c d : Int) : Res := runEA Tryz.prog SD (nthN masks) 100000 5 (zeroArgs v a b c d)
theorem run5 (v a b c d : Int) : okT (runZ v a b c d) = true := by kernel_rfl
theorem zeroArgs_rel (v a b c d : Int) : All2 (RA ρ0) (zeroArgs v a b c d) [.int .u32 v, .agg #[.int .u8 a, .int .u8 b, .int .u8 c, .int .u8 d]] := by
  refine .cons (.c (.of_self rfl)) (.cons (.agg ?_) .nil)
  exact .cons (.of_self rfl) (.cons (.of_self rfl) (.cons (.of_self rfl) (.cons (.of_self rfl) .nil)))
theorem spec_5 (v a b c d : Int) (h : H) : AM.Spec Tryz.prog 5 [.int .u32 v, .agg #[.int .u8 a, .int .u8 b, .int .u8 c, .int .u8 d]] h fun v h' => v = .bool true ∧ Sub h h' :=
  spec_trueA mixed SD_ok (run5 v a b c d) (zeroArgs_rel v a b c d) h
end Go.Proofs.YtdjjacjamgmdgaaGreat
