/-
  'SlowRead', by the executor: four bytes, a label that is not nought, which stand as tokens.
-/
import Derived.Test.YtbmfblmebhobiaaGreatX14
import Derived.Test.YtbmfblmebhobiaaGreatRun4
import Derived.KernelRfl
namespace Go.Proofs.YtbmfblmebhobiaaGreat
open Go.Proofs.YtbmfblmebhobiaaGreat.AM
noncomputable section
def SL3 : CallF := ST 4 SE
theorem SL3_ok : CallOk Tryz.prog SL3 := ST_ok SE_ok awake4
def T1 (k : Nat) : Value := .chan (some k)
def eh3 : EH := mkEH [(2, EO.cells (.cat (.cat (.one (T1 1)) (.one (T1 2))) (.cat (.one (T1 3)) (.one (T1 4)))) 5 .ro)]
def args3 (r : Bool) : List XA := [.c (Ls 2 0 4 CAPT), .c (T1 0), .c (.bool r)]
end
end Go.Proofs.YtbmfblmebhobiaaGreat
