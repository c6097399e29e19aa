/-
  The two machines that the law begins with, but for their registers; what the calls that hold them against each other come to.
-/
import Derived.Test.YtcohcmlidmaaoaaGreatMM
import Derived.Test.YtcohcmlidmaaoaaGreatQN0
import Derived.KernelRfl
set_option linter.unusedVariables false
set_option linter.unusedSimpArgs false
set_option maxRecDepth 100000
namespace Go.Proofs.YtcohcmlidmaaoaaGreat
open Go.Proofs.YtcohcmlidmaaoaaGreat.AM
noncomputable section
def baseL : List (Nat × EO) := qn0.objs.filter fun p => !Nat.beq p.1 59 && !Nat.beq p.1 124
def eB : EH := mkEH baseL
def namesB : List Nat := baseL.map (·.1)
def objsB : List (Option EO) := baseL.map fun p => some p.2
def pick2 (r : Res) (bs : List Nat) : Option (XV × List (Option EO)) := match r with | some (v, eh, _) => some (v, bs.map fun b => eh.get b) | none => none
def pairRun (f1 : Nat) (args : List XA) (f2 : Nat) (w : XA) : Option (XV × List (Option EO) × List (Option EO)) :=
  match CN f1 args eB 305 with
  | some (.a (.c (.pointer (some ⟨b, 0, none⟩))), eh1, n1) => (match CN f2 [.c (Pt b 0), w] eh1 n1 with
    | some (v, eh2, _) => some (v, namesB.map fun b => eh1.get b, namesB.map fun b => eh2.get b)
    | none => none)
  | _ => none
theorem f_use : pick2 (CN 23 [.c (Pt 49 0)] eB 305) namesB = some (.a (.c (Pt 46 0)), objsB) := by kernel_rfl
theorem f_used : pick2 (CN 24 [.c (Pt 46 0)] eB 305) namesB = some (.tup [.c (I .i64 0), .c (I .i64 0), .c (I .i64 0)], objsB) := by kernel_rfl
theorem f_told : pick2 (CN 32 [.c (.slice none 0 0), .c (.slice none 0 0)] eB 305) namesB = some (.a (.c (.bool true)), objsB) := by kernel_rfl
theorem f_out1 : pick2 (CN 33 [.c (Pt 49 0), .c (I .i64 1)] eB 305) namesB = some (.a (.c (.slice none 0 0)), objsB) := by kernel_rfl
theorem f_out2 : pick2 (CN 33 [.c (Pt 49 0), .c (I .i64 2)] eB 305) namesB = some (.a (.c (.slice none 0 0)), objsB) := by kernel_rfl
theorem f_out71 : pick2 (CN 34 [.c (Pt 121 0), .c (I .i64 1)] eB 305) namesB = some (.a (.c (.slice none 0 0)), objsB) := by kernel_rfl
theorem f_out72 : pick2 (CN 34 [.c (Pt 121 0), .c (I .i64 2)] eB 305) namesB = some (.a (.c (.slice none 0 0)), objsB) := by kernel_rfl
theorem f_shadow : pairRun 28 [.c (Pt 64 0), .c (I .i64 1)] 27 (.c (Pt 123 0)) = some (.a (.c (.bool true)), objsB, objsB) := by kernel_rfl
end
end Go.Proofs.YtcohcmlidmaaoaaGreat
