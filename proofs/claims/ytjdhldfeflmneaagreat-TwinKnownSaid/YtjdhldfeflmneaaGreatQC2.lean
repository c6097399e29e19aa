/-
  A call that was run once: what it came to.
-/
import Derived.Test.YtjdhldfeflmneaaGreatQT2
import Derived.Test.YtjdhldfeflmneaaGreatX13
import Derived.KernelRfl
namespace Go.Proofs.YtjdhldfeflmneaaGreat
open Go.Proofs.YtjdhldfeflmneaaGreat.AM
noncomputable section
def qc2_i : List (Nat × EO) := inOf [qt2.objs] [(0, 90), (0, 93), (0, 95), (0, 78), (0, 71), (0, 91), (0, 92), (0, 94), (0, 75), (0, 76), (0, 77), (0, 97), (0, 98), (0, 99), (0, 100), (0, 102), (0, 103), (0, 105), (0, 106), (0, 107), (0, 108), (0, 109), (0, 110), (0, 111), (0, 112), (0, 113), (0, 114), (0, 115), (0, 116), (0, 117), (0, 118), (0, 119), (0, 120), (0, 81)]
def qc2 : LQ where
  f := 17
  args := [.c (Pt 2 0)]
  inp := qc2_i
  n := 36
  v := .a (.c (Pt 36 0))
  objs := dfOf qc2_i [
    (36, .cells (.cat (.cat (.rep 0 (.pointer none)) (.cat (.cat (.one (Pt 39 0)) (.one (Pt 63 0))) (.cat (.cat (.cat (.cat (.cat (.rep 2 (I .u32 0)) (.cat (.one (I .u32 2147479536)) (.rep 1 (I .u32 0)))) (.rep 4 (I .u32 0))) (.rep 8 (I .u32 0))) (.cat (.rep 8 (I .u32 0)) (.cat (.rep 4 (I .u32 0)) (.cat (.rep 2 (I .u32 0)) (.cat (.rep 1 (I .u32 0)) (.cat (.rep 1 (I .u32 0)) (.one (I .u32 4096)))))))) (.cat (.one (I .i64 0)) (.cat (.rep 128 (I .u8 0)) (.one (Pt 67 0))))))) (.cat (.cat (.one (.bool true)) (.cat (.one (Ls 71 0 1 1)) (.one (.slice none 0 0)))) (.cat (.cat (.one (I .u32 66048)) (.one (I .u32 66048))) (.one (.slice none 0 0))))) 59 .exact),
    (37, .map (.int .u32) [(I .u32 4096, .c (I .u32 2)), (I .u32 4352, .c (I .u32 1)), (I .u32 4608, .c (I .u32 1)), (I .u32 4864, .c (I .u32 1)), (I .u32 65536, .c (I .u32 1)), (I .u32 65792, .c (I .u32 1)), (I .u32 2147475456, .c (I .u32 2)), (I .u32 2147475712, .c (I .u32 2)), (I .u32 2147475968, .c (I .u32 2)), (I .u32 2147476224, .c (I .u32 2)), (I .u32 2147476480, .c (I .u32 2)), (I .u32 2147476736, .c (I .u32 2)), (I .u32 2147476992, .c (I .u32 2)), (I .u32 2147477248, .c (I .u32 2)), (I .u32 2147477504, .c (I .u32 2)), (I .u32 2147477760, .c (I .u32 2)), (I .u32 2147478016, .c (I .u32 2)), (I .u32 2147478272, .c (I .u32 2)), (I .u32 2147478528, .c (I .u32 2)), (I .u32 2147478784, .c (I .u32 2)), (I .u32 2147479040, .c (I .u32 2)), (I .u32 2147479296, .c (I .u32 2))] 22),
    (38, .map (.int .u32) [(I .u32 4096, .c (Pt 40 0)), (I .u32 4352, .c (Pt 41 0)), (I .u32 4608, .c (Pt 42 0)), (I .u32 4864, .c (Pt 43 0)), (I .u32 65536, .c (Pt 44 0)), (I .u32 65792, .c (Pt 45 0)), (I .u32 2147475456, .c (Pt 46 0)), (I .u32 2147475712, .c (Pt 47 0)), (I .u32 2147475968, .c (Pt 48 0)), (I .u32 2147476224, .c (Pt 49 0)), (I .u32 2147476480, .c (Pt 50 0)), (I .u32 2147476736, .c (Pt 51 0)), (I .u32 2147476992, .c (Pt 52 0)), (I .u32 2147477248, .c (Pt 53 0)), (I .u32 2147477504, .c (Pt 54 0)), (I .u32 2147477760, .c (Pt 55 0)), (I .u32 2147478016, .c (Pt 56 0)), (I .u32 2147478272, .c (Pt 57 0)), (I .u32 2147478528, .c (Pt 58 0)), (I .u32 2147478784, .c (Pt 59 0)), (I .u32 2147479040, .c (Pt 60 0)), (I .u32 2147479296, .c (Pt 61 0))] 22),
    (39, .cells (.cat (.one (I .i64 30)) (.cat (.one (.map (some 38))) (.one (.map (some 37))))) 208 .exact),
    (40, .cells (.cat (.one (I .u8 183)) (.cat (.cat (.cat (.cat (.cat (.cat (.cat (.cat (.cat (.one (I .u8 5)) (.cat (.one (I .u8 1)) (.one (I .u8 0)))) (.cat (.cat (.one (I .u8 19)) (.one (I .u8 6))) (.cat (.one (I .u8 64)) (.one (I .u8 0))))) (.cat (.cat (.one (I .u8 147)) (.one (I .u8 8))) (.cat (.one (I .u8 240)) (.one (I .u8 3))))) (.cat (.cat (.one (I .u8 115)) (.one (I .u8 0))) (.cat (.one (I .u8 0)) (.one (I .u8 0))))) (.cat (.cat (.one (I .u8 131)) (.one (I .u8 162))) (.cat (.one (I .u8 5)) (.one (I .u8 0))))) (.cat (.cat (.one (I .u8 179)) (.one (I .u8 130))) (.cat (.one (I .u8 82)) (.one (I .u8 0))))) (.cat (.cat (.one (I .u8 35)) (.one (I .u8 162))) (.cat (.one (I .u8 85)) (.one (I .u8 0))))) (.cat (.cat (.one (I .u8 99)) (.one (I .u8 132))) (.cat (.one (I .u8 2)) (.one (I .u8 0))))) (.cat (.cat (.cat (.rep 32 (I .u8 0)) (.rep 64 (I .u8 0))) (.rep 128 (I .u8 0))) (.one (I .i64 5))))) 127 .exact),
    (41, .cells (.cat (.rep 256 (I .u8 0)) (.one (I .i64 5))) 127 .exact),
    (42, .cells (.cat (.rep 256 (I .u8 0)) (.one (I .i64 5))) 127 .exact),
    (43, .cells (.cat (.rep 256 (I .u8 0)) (.one (I .i64 5))) 127 .exact),
    (44, .cells (.cat (.rep 256 (I .u8 0)) (.one (I .i64 3))) 127 .exact),
    (45, .cells (.cat (.rep 256 (I .u8 0)) (.one (I .i64 3))) 127 .exact),
    (46, .cells (.cat (.one (I .u8 0)) (.cat (.rep 255 (I .u8 0)) (.one (I .i64 3)))) 127 .exact),
    (47, .cells (.cat (.one (I .u8 0)) (.cat (.rep 255 (I .u8 0)) (.one (I .i64 3)))) 127 .exact),
    (48, .cells (.cat (.one (I .u8 0)) (.cat (.rep 255 (I .u8 0)) (.one (I .i64 3)))) 127 .exact),
    (49, .cells (.cat (.one (I .u8 0)) (.cat (.rep 255 (I .u8 0)) (.one (I .i64 3)))) 127 .exact),
    (50, .cells (.cat (.one (I .u8 0)) (.cat (.rep 255 (I .u8 0)) (.one (I .i64 3)))) 127 .exact),
    (51, .cells (.cat (.one (I .u8 0)) (.cat (.rep 255 (I .u8 0)) (.one (I .i64 3)))) 127 .exact),
    (52, .cells (.cat (.one (I .u8 0)) (.cat (.rep 255 (I .u8 0)) (.one (I .i64 3)))) 127 .exact),
    (53, .cells (.cat (.one (I .u8 0)) (.cat (.rep 255 (I .u8 0)) (.one (I .i64 3)))) 127 .exact),
    (54, .cells (.cat (.one (I .u8 0)) (.cat (.rep 255 (I .u8 0)) (.one (I .i64 3)))) 127 .exact),
    (55, .cells (.cat (.one (I .u8 0)) (.cat (.rep 255 (I .u8 0)) (.one (I .i64 3)))) 127 .exact),
    (56, .cells (.cat (.one (I .u8 0)) (.cat (.rep 255 (I .u8 0)) (.one (I .i64 3)))) 127 .exact),
    (57, .cells (.cat (.one (I .u8 0)) (.cat (.rep 255 (I .u8 0)) (.one (I .i64 3)))) 127 .exact),
    (58, .cells (.cat (.one (I .u8 0)) (.cat (.rep 255 (I .u8 0)) (.one (I .i64 3)))) 127 .exact),
    (59, .cells (.cat (.one (I .u8 0)) (.cat (.rep 255 (I .u8 0)) (.one (I .i64 3)))) 127 .exact),
    (60, .cells (.cat (.one (I .u8 0)) (.cat (.rep 255 (I .u8 0)) (.one (I .i64 3)))) 127 .exact),
    (61, .cells (.cat (.one (I .u8 0)) (.cat (.cat (.rep 127 (I .u8 0)) (.cat (.rep 64 (I .u8 0)) (.cat (.rep 32 (I .u8 0)) (.cat (.rep 16 (I .u8 0)) (.cat (.cat (.cat (.cat (.one (I .u8 0)) (.one (I .u8 0))) (.cat (.one (I .u8 0)) (.one (I .u8 0)))) (.rep 4 (I .u8 0))) (.rep 8 (I .u8 0))))))) (.one (I .i64 3)))) 127 .exact),
    (62, .map (.int .u32) [] 0),
    (63, .cells (.cat (.one (I .i64 5)) (.one (.map (some 62)))) 221 .exact),
    (64, .cells (.cat (.rep 0 (.slice none 0 0)) (.cat (.cat (.cat (.one (.slice none 0 0)) (.cat (.one (.slice none 0 0)) (.one (.slice none 0 0)))) (.rep 3 (I .i64 0))) (.rep 0 (I .i64 0)))) 294 .exact),
    (65, .map (.int .i64) [(I .i64 0, .agg (.cat (.one (Ls 35 0 4 4)) (.cat (.one (I .i64 0)) (.one (.bool false))))), (I .i64 1, .agg (.cat (.one (.slice none 0 0)) (.cat (.one (I .i64 0)) (.one (.bool true))))), (I .i64 2, .agg (.cat (.one (.slice none 0 0)) (.cat (.one (I .i64 0)) (.one (.bool true)))))] 3),
    (66, .map (.int .i64) [] 0),
    (67, .cells (.cat (.one (.slice none 0 0)) (.cat (.one (Pt 64 0)) (.cat (.one (.map (some 65))) (.one (.map (some 66)))))) 229 .exact),
    (71, .cells (.cat (.cat (.one (I .i64 1)) (.one (I .u32 0))) (.cat (.one (I .u32 0)) (.one (I .u8 1)))) 80 .open)]
  n' := 72
end
end Go.Proofs.YtjdhldfeflmneaaGreat
