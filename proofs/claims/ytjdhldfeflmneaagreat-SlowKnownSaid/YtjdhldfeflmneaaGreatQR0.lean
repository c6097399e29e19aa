/-
  A call that was run once: what it came to.
-/
import Derived.Test.YtjdhldfeflmneaaGreatE5
import Derived.KernelRfl
namespace Go.Proofs.YtjdhldfeflmneaaGreat
open Go.Proofs.YtjdhldfeflmneaaGreat.AM
noncomputable section
def qsr0 : LQ where
  f := 26
  args := [.c (Pt 2 0), .c (I .i64 99), .c (.bool true)]
  inp := [(2, EO.cells (.cat (.cat (.cat (.one (Pt 3 0)) (.one (Pt 4 0))) (.cat (.cat (.cat (.cat (.cat (.rep 2 (I .u32 0)) (.cat (.one (I .u32 2147479536)) (.rep 1 (I .u32 0)))) (.rep 4 (I .u32 0))) (.rep 8 (I .u32 0))) (.cat (.rep 8 (I .u32 0)) (.cat (.rep 4 (I .u32 0)) (.cat (.rep 2 (I .u32 0)) (.cat (.rep 1 (I .u32 0)) (.cat (.rep 1 (I .u32 0)) (.one (I .u32 4096)))))))) (.cat (.one (I .i64 0)) (.cat (.rep 128 (I .u8 0)) (.one (Pt 5 0)))))) (.cat (.cat (.one (.bool false)) (.cat (.one (Ls 6 0 1 1)) (.one (Ls 7 0 1 1)))) (.cat (.cat (.one (I .u32 66048)) (.one (I .u32 66048))) (.one (.slice none 0 0))))) 59 .exact),
    (3, EO.cells (.cat (.one (I .i64 30)) (.cat (.one (.map (some 8))) (.one (.map (some 9))))) 208 .exact),
    (4, EO.cells (.cat (.one (I .i64 5)) (.one (.map (some 10)))) 221 .exact),
    (5, EO.cells (.cat (.one (.slice none 0 0)) (.cat (.one (Pt 11 0)) (.cat (.one (.map (some 12))) (.one (.map (some 13)))))) 229 .exact),
    (6, EO.cells (.cat (.cat (.one (I .i64 1)) (.one (I .u32 0))) (.cat (.one (I .u32 0)) (.one (I .u8 4)))) 80 .open),
    (7, EO.cells (.cat (.one (I .i64 1)) (.cat (.one (I .i64 0)) (.one (I .u8 4)))) 69 .open),
    (8, EO.map (.int .u32) [(I .u32 4096, .c (Pt 14 0)), (I .u32 4352, .c (Pt 15 0)), (I .u32 4608, .c (Pt 16 0)), (I .u32 4864, .c (Pt 17 0)), (I .u32 65536, .c (Pt 18 0)), (I .u32 65792, .c (Pt 19 0)), (I .u32 2147475456, .c (Pt 20 0)), (I .u32 2147475712, .c (Pt 21 0)), (I .u32 2147475968, .c (Pt 22 0)), (I .u32 2147476224, .c (Pt 23 0)), (I .u32 2147476480, .c (Pt 24 0)), (I .u32 2147476736, .c (Pt 25 0)), (I .u32 2147476992, .c (Pt 26 0)), (I .u32 2147477248, .c (Pt 27 0)), (I .u32 2147477504, .c (Pt 28 0)), (I .u32 2147477760, .c (Pt 29 0)), (I .u32 2147478016, .c (Pt 30 0)), (I .u32 2147478272, .c (Pt 31 0)), (I .u32 2147478528, .c (Pt 32 0)), (I .u32 2147478784, .c (Pt 33 0)), (I .u32 2147479040, .c (Pt 34 0)), (I .u32 2147479296, .c (Pt 35 0))] 22),
    (9, EO.map (.int .u32) [(I .u32 4096, .c (I .u32 2)), (I .u32 4352, .c (I .u32 1)), (I .u32 4608, .c (I .u32 1)), (I .u32 4864, .c (I .u32 1)), (I .u32 65536, .c (I .u32 1)), (I .u32 65792, .c (I .u32 1)), (I .u32 2147475456, .c (I .u32 2)), (I .u32 2147475712, .c (I .u32 2)), (I .u32 2147475968, .c (I .u32 2)), (I .u32 2147476224, .c (I .u32 2)), (I .u32 2147476480, .c (I .u32 2)), (I .u32 2147476736, .c (I .u32 2)), (I .u32 2147476992, .c (I .u32 2)), (I .u32 2147477248, .c (I .u32 2)), (I .u32 2147477504, .c (I .u32 2)), (I .u32 2147477760, .c (I .u32 2)), (I .u32 2147478016, .c (I .u32 2)), (I .u32 2147478272, .c (I .u32 2)), (I .u32 2147478528, .c (I .u32 2)), (I .u32 2147478784, .c (I .u32 2)), (I .u32 2147479040, .c (I .u32 2)), (I .u32 2147479296, .c (I .u32 2))] 22),
    (10, EO.map (.int .u32) [] 0),
    (11, EO.cells (.cat (.cat (.one (.slice none 0 0)) (.cat (.one (.slice none 0 0)) (.one (.slice none 0 0)))) (.rep 3 (I .i64 0))) 294 .exact),
    (12, EO.map (.int .i64) [(I .i64 0, .agg (.cat (.one (Ls 36 0 4 4)) (.cat (.one (I .i64 0)) (.one (.bool false))))), (I .i64 1, .agg (.cat (.one (.slice none 0 0)) (.cat (.one (I .i64 0)) (.one (.bool true))))), (I .i64 2, .agg (.cat (.one (.slice none 0 0)) (.cat (.one (I .i64 0)) (.one (.bool true)))))] 3),
    (13, EO.map (.int .i64) [] 0),
    (14, EO.cells (.cat (.one (I .u8 183)) (.cat (.cat (.cat (.cat (.cat (.cat (.cat (.one (I .u8 5)) (.cat (.one (I .u8 1)) (.one (I .u8 0)))) (.cat (.cat (.one (I .u8 19)) (.one (I .u8 6))) (.cat (.one (I .u8 64)) (.one (I .u8 0))))) (.cat (.cat (.one (I .u8 147)) (.one (I .u8 8))) (.cat (.one (I .u8 240)) (.one (I .u8 3))))) (.cat (.cat (.one (I .u8 115)) (.one (I .u8 0))) (.cat (.one (I .u8 0)) (.one (I .u8 0))))) (.cat (.cat (.one (I .u8 131)) (.one (I .u8 162))) (.cat (.one (I .u8 5)) (.one (I .u8 0))))) (.cat (.cat (.one (I .u8 103)) (.one (I .u8 128))) (.cat (.one (I .u8 2)) (.one (I .u8 0))))) (.cat (.cat (.cat (.cat (.rep 8 (I .u8 0)) (.rep 32 (I .u8 0))) (.rep 64 (I .u8 0))) (.rep 128 (I .u8 0))) (.one (I .i64 5))))) 127 .exact),
    (15, EO.cells (.cat (.rep 256 (I .u8 0)) (.one (I .i64 5))) 127 .exact),
    (16, EO.cells (.cat (.rep 256 (I .u8 0)) (.one (I .i64 5))) 127 .exact),
    (17, EO.cells (.cat (.rep 256 (I .u8 0)) (.one (I .i64 5))) 127 .exact),
    (18, EO.cells (.cat (.rep 256 (I .u8 0)) (.one (I .i64 3))) 127 .exact),
    (19, EO.cells (.cat (.rep 256 (I .u8 0)) (.one (I .i64 3))) 127 .exact),
    (20, EO.cells (.cat (.one (I .u8 0)) (.cat (.rep 255 (I .u8 0)) (.one (I .i64 3)))) 127 .exact),
    (21, EO.cells (.cat (.one (I .u8 0)) (.cat (.rep 255 (I .u8 0)) (.one (I .i64 3)))) 127 .exact),
    (22, EO.cells (.cat (.one (I .u8 0)) (.cat (.rep 255 (I .u8 0)) (.one (I .i64 3)))) 127 .exact),
    (23, EO.cells (.cat (.one (I .u8 0)) (.cat (.rep 255 (I .u8 0)) (.one (I .i64 3)))) 127 .exact),
    (24, EO.cells (.cat (.one (I .u8 0)) (.cat (.rep 255 (I .u8 0)) (.one (I .i64 3)))) 127 .exact),
    (25, EO.cells (.cat (.one (I .u8 0)) (.cat (.rep 255 (I .u8 0)) (.one (I .i64 3)))) 127 .exact),
    (26, EO.cells (.cat (.one (I .u8 0)) (.cat (.rep 255 (I .u8 0)) (.one (I .i64 3)))) 127 .exact),
    (27, EO.cells (.cat (.one (I .u8 0)) (.cat (.rep 255 (I .u8 0)) (.one (I .i64 3)))) 127 .exact),
    (28, EO.cells (.cat (.one (I .u8 0)) (.cat (.rep 255 (I .u8 0)) (.one (I .i64 3)))) 127 .exact),
    (29, EO.cells (.cat (.one (I .u8 0)) (.cat (.rep 255 (I .u8 0)) (.one (I .i64 3)))) 127 .exact),
    (30, EO.cells (.cat (.one (I .u8 0)) (.cat (.rep 255 (I .u8 0)) (.one (I .i64 3)))) 127 .exact),
    (31, EO.cells (.cat (.one (I .u8 0)) (.cat (.rep 255 (I .u8 0)) (.one (I .i64 3)))) 127 .exact),
    (32, EO.cells (.cat (.one (I .u8 0)) (.cat (.rep 255 (I .u8 0)) (.one (I .i64 3)))) 127 .exact),
    (33, EO.cells (.cat (.one (I .u8 0)) (.cat (.rep 255 (I .u8 0)) (.one (I .i64 3)))) 127 .exact),
    (34, EO.cells (.cat (.one (I .u8 0)) (.cat (.rep 255 (I .u8 0)) (.one (I .i64 3)))) 127 .exact),
    (35, EO.cells (.cat (.one (I .u8 0)) (.cat (.cat (.rep 127 (I .u8 0)) (.cat (.rep 64 (I .u8 0)) (.cat (.rep 32 (I .u8 0)) (.cat (.rep 16 (I .u8 0)) (.cat (.cat (.cat (.cat (.one (I .u8 0)) (.one (I .u8 0))) (.cat (.one (I .u8 0)) (.one (I .u8 0)))) (.rep 4 (I .u8 0))) (.rep 8 (I .u8 0))))))) (.one (I .i64 3)))) 127 .exact),
    (36, EO.cells (.cat (.cat (.one (I .u8 0)) (.one (I .u8 16))) (.cat (.one (I .u8 0)) (.one (I .u8 0)))) 5 .open)]
  n := 37
  v := .a (.agg (.cat (.one (I .i64 4)) (.cat (.one (I .u32 0)) (.cat (.one (I .i64 0)) (.cat (.one (I .u32 0)) (.one (I .i64 0)))))))
  objs := [
    (2, .cells (.cat (.cat (.cat (.one (Pt 3 0)) (.one (Pt 4 0))) (.cat (.rep 0 (I .u32 0)) (.cat (.rep 0 (I .u32 0)) (.cat (.rep 0 (I .u32 0)) (.cat (.rep 0 (I .u32 0)) (.cat (.rep 0 (I .u32 0)) (.cat (.rep 0 (I .u32 0)) (.cat (.rep 0 (I .u32 0)) (.cat (.rep 0 (I .u32 0)) (.cat (.rep 0 (I .u32 0)) (.cat (.rep 0 (I .u32 0)) (.cat (.rep 0 (I .u32 0)) (.cat (.rep 0 (I .u32 0)) (.cat (.rep 0 (I .u32 0)) (.cat (.rep 0 (I .u32 0)) (.cat (.rep 0 (I .u32 0)) (.cat (.rep 0 (I .u32 0)) (.cat (.rep 0 (I .u32 0)) (.cat (.rep 0 (I .u32 0)) (.cat (.rep 0 (I .u32 0)) (.cat (.rep 0 (I .u32 0)) (.cat (.rep 0 (I .u32 0)) (.cat (.rep 0 (I .u32 0)) (.cat (.rep 0 (I .u32 0)) (.cat (.rep 0 (I .u32 0)) (.cat (.cat (.cat (.cat (.cat (.cat (.one (I .u32 0)) (.rep 1 (I .u32 0))) (.cat (.one (I .u32 2147479536)) (.rep 1 (I .u32 0)))) (.cat (.cat (.rep 1 (I .u32 0)) (.one (I .u32 4096))) (.rep 2 (I .u32 0)))) (.cat (.cat (.rep 2 (I .u32 0)) (.cat (.one (I .u32 4)) (.one (I .u32 65536)))) (.cat (.cat (.one (I .u32 4)) (.rep 1 (I .u32 0))) (.rep 2 (I .u32 0))))) (.cat (.cat (.cat (.cat (.rep 1 (I .u32 0)) (.one (I .u32 63))) (.rep 2 (I .u32 0))) (.rep 4 (I .u32 0))) (.cat (.rep 4 (I .u32 0)) (.cat (.rep 2 (I .u32 0)) (.cat (.rep 1 (I .u32 0)) (.cat (.rep 1 (I .u32 0)) (.one (I .u32 4116)))))))) (.one (I .i64 5)))))))))))))))))))))))))))) (.cat (.cat (.rep 0 (I .u8 0)) (.cat (.rep 0 (I .u8 0)) (.cat (.rep 0 (I .u8 0)) (.cat (.rep 4 (I .u8 0)) (.cat (.rep 16 (I .u8 0)) (.cat (.cat (.rep 0 (I .u8 0)) (.cat (.rep 0 (I .u8 0)) (.cat (.rep 0 (I .u8 0)) (.cat (.rep 0 (I .u8 0)) (.cat (.rep 0 (I .u8 0)) (.cat (.cat (.one (I .u8 4)) (.one (I .u8 4))) (.cat (.one (I .u8 4)) (.one (I .u8 4))))))))) (.cat (.rep 16 (I .u8 0)) (.cat (.rep 4 (I .u8 0)) (.cat (.cat (.cat (.rep 0 (I .u8 0)) (.cat (.rep 0 (I .u8 0)) (.rep 4 (I .u8 0)))) (.cat (.cat (.rep 0 (I .u8 0)) (.cat (.rep 0 (I .u8 0)) (.cat (.rep 0 (I .u8 0)) (.cat (.rep 0 (I .u8 0)) (.cat (.rep 0 (I .u8 0)) (.cat (.rep 0 (I .u8 0)) (.cat (.rep 0 (I .u8 0)) (.cat (.cat (.one (I .u8 0)) (.one (I .u8 0))) (.cat (.one (I .u8 0)) (.one (I .u8 0))))))))))) (.rep 16 (I .u8 0)))) (.cat (.cat (.rep 0 (I .u8 0)) (.cat (.rep 0 (I .u8 0)) (.cat (.rep 0 (I .u8 0)) (.cat (.rep 0 (I .u8 0)) (.cat (.rep 0 (I .u8 0)) (.cat (.rep 0 (I .u8 0)) (.cat (.rep 0 (I .u8 0)) (.cat (.cat (.one (I .u8 0)) (.one (I .u8 0))) (.cat (.one (I .u8 0)) (.one (I .u8 0))))))))))) (.rep 56 (I .u8 0)))))))))))) (.cat (.one (Pt 447 0)) (.cat (.cat (.one (.bool false)) (.cat (.one (Ls 6 0 1 1)) (.one (Ls 7 0 1 1)))) (.cat (.cat (.one (I .u32 66048)) (.one (I .u32 66048))) (.one (Ls 659 0 1 1))))))) 59 .exact),
    (3, .cells (.cat (.one (I .i64 30)) (.cat (.one (.map (some 8))) (.one (.map (some 9))))) 208 .exact),
    (4, .cells (.cat (.one (I .i64 5)) (.one (.map (some 10)))) 221 .exact),
    (5, .cells (.cat (.one (.slice none 0 0)) (.cat (.one (Pt 11 0)) (.cat (.one (.map (some 12))) (.one (.map (some 13)))))) 229 .exact),
    (6, .cells (.cat (.cat (.one (I .i64 1)) (.one (I .u32 0))) (.cat (.one (I .u32 0)) (.one (I .u8 4)))) 80 .open),
    (7, .cells (.cat (.one (I .i64 1)) (.cat (.one (I .i64 0)) (.one (I .u8 4)))) 69 .open),
    (8, .map (.int .u32) [(I .u32 4096, .c (Pt 14 0)), (I .u32 4352, .c (Pt 15 0)), (I .u32 4608, .c (Pt 16 0)), (I .u32 4864, .c (Pt 17 0)), (I .u32 65536, .c (Pt 18 0)), (I .u32 65792, .c (Pt 19 0)), (I .u32 2147475456, .c (Pt 20 0)), (I .u32 2147475712, .c (Pt 21 0)), (I .u32 2147475968, .c (Pt 22 0)), (I .u32 2147476224, .c (Pt 23 0)), (I .u32 2147476480, .c (Pt 24 0)), (I .u32 2147476736, .c (Pt 25 0)), (I .u32 2147476992, .c (Pt 26 0)), (I .u32 2147477248, .c (Pt 27 0)), (I .u32 2147477504, .c (Pt 28 0)), (I .u32 2147477760, .c (Pt 29 0)), (I .u32 2147478016, .c (Pt 30 0)), (I .u32 2147478272, .c (Pt 31 0)), (I .u32 2147478528, .c (Pt 32 0)), (I .u32 2147478784, .c (Pt 33 0)), (I .u32 2147479040, .c (Pt 34 0)), (I .u32 2147479296, .c (Pt 35 0))] 22),
    (9, .map (.int .u32) [(I .u32 4096, .c (I .u32 2)), (I .u32 4352, .c (I .u32 1)), (I .u32 4608, .c (I .u32 1)), (I .u32 4864, .c (I .u32 1)), (I .u32 65536, .c (I .u32 2)), (I .u32 65792, .c (I .u32 1)), (I .u32 2147475456, .c (I .u32 2)), (I .u32 2147475712, .c (I .u32 2)), (I .u32 2147475968, .c (I .u32 2)), (I .u32 2147476224, .c (I .u32 2)), (I .u32 2147476480, .c (I .u32 2)), (I .u32 2147476736, .c (I .u32 2)), (I .u32 2147476992, .c (I .u32 2)), (I .u32 2147477248, .c (I .u32 2)), (I .u32 2147477504, .c (I .u32 2)), (I .u32 2147477760, .c (I .u32 2)), (I .u32 2147478016, .c (I .u32 2)), (I .u32 2147478272, .c (I .u32 2)), (I .u32 2147478528, .c (I .u32 2)), (I .u32 2147478784, .c (I .u32 2)), (I .u32 2147479040, .c (I .u32 2)), (I .u32 2147479296, .c (I .u32 2))] 22),
    (10, .map (.int .u32) [(I .u32 65536, .c (Pt 456 0))] 1),
    (11, .cells (.cat (.cat (.one (.slice none 0 0)) (.cat (.one (.slice none 0 0)) (.one (.slice none 0 0)))) (.rep 3 (I .i64 0))) 294 .exact),
    (12, .map (.int .i64) [(I .i64 0, .agg (.cat (.one (Ls 36 0 4 4)) (.cat (.one (I .i64 0)) (.one (.bool false))))), (I .i64 1, .agg (.cat (.one (.slice none 0 0)) (.cat (.one (I .i64 0)) (.one (.bool true))))), (I .i64 2, .agg (.cat (.one (.slice none 0 0)) (.cat (.one (I .i64 0)) (.one (.bool true)))))] 3),
    (13, .map (.int .i64) [] 0),
    (14, .cells (.cat (.one (I .u8 183)) (.cat (.cat (.cat (.cat (.cat (.cat (.cat (.one (I .u8 5)) (.cat (.one (I .u8 1)) (.one (I .u8 0)))) (.cat (.cat (.one (I .u8 19)) (.one (I .u8 6))) (.cat (.one (I .u8 64)) (.one (I .u8 0))))) (.cat (.cat (.one (I .u8 147)) (.one (I .u8 8))) (.cat (.one (I .u8 240)) (.one (I .u8 3))))) (.cat (.cat (.one (I .u8 115)) (.one (I .u8 0))) (.cat (.one (I .u8 0)) (.one (I .u8 0))))) (.cat (.cat (.one (I .u8 131)) (.one (I .u8 162))) (.cat (.one (I .u8 5)) (.one (I .u8 0))))) (.cat (.cat (.one (I .u8 103)) (.one (I .u8 128))) (.cat (.one (I .u8 2)) (.one (I .u8 0))))) (.cat (.cat (.cat (.cat (.rep 8 (I .u8 0)) (.rep 32 (I .u8 0))) (.rep 64 (I .u8 0))) (.rep 128 (I .u8 0))) (.one (I .i64 5))))) 127 .exact),
    (15, .cells (.cat (.rep 256 (I .u8 0)) (.one (I .i64 5))) 127 .exact),
    (16, .cells (.cat (.rep 256 (I .u8 0)) (.one (I .i64 5))) 127 .exact),
    (17, .cells (.cat (.rep 256 (I .u8 0)) (.one (I .i64 5))) 127 .exact),
    (18, .cells (.cat (.one (I .u8 0)) (.cat (.cat (.one (I .u8 16)) (.cat (.one (I .u8 0)) (.one (I .u8 0)))) (.cat (.cat (.cat (.cat (.cat (.cat (.rep 4 (I .u8 0)) (.rep 8 (I .u8 0))) (.rep 16 (I .u8 0))) (.rep 32 (I .u8 0))) (.rep 64 (I .u8 0))) (.rep 128 (I .u8 0))) (.one (I .i64 3))))) 127 .exact),
    (19, .cells (.cat (.rep 256 (I .u8 0)) (.one (I .i64 3))) 127 .exact),
    (20, .cells (.cat (.one (I .u8 0)) (.cat (.rep 255 (I .u8 0)) (.one (I .i64 3)))) 127 .exact),
    (21, .cells (.cat (.one (I .u8 0)) (.cat (.rep 255 (I .u8 0)) (.one (I .i64 3)))) 127 .exact),
    (22, .cells (.cat (.one (I .u8 0)) (.cat (.rep 255 (I .u8 0)) (.one (I .i64 3)))) 127 .exact),
    (23, .cells (.cat (.one (I .u8 0)) (.cat (.rep 255 (I .u8 0)) (.one (I .i64 3)))) 127 .exact),
    (24, .cells (.cat (.one (I .u8 0)) (.cat (.rep 255 (I .u8 0)) (.one (I .i64 3)))) 127 .exact),
    (25, .cells (.cat (.one (I .u8 0)) (.cat (.rep 255 (I .u8 0)) (.one (I .i64 3)))) 127 .exact),
    (26, .cells (.cat (.one (I .u8 0)) (.cat (.rep 255 (I .u8 0)) (.one (I .i64 3)))) 127 .exact),
    (27, .cells (.cat (.one (I .u8 0)) (.cat (.rep 255 (I .u8 0)) (.one (I .i64 3)))) 127 .exact),
    (28, .cells (.cat (.one (I .u8 0)) (.cat (.rep 255 (I .u8 0)) (.one (I .i64 3)))) 127 .exact),
    (29, .cells (.cat (.one (I .u8 0)) (.cat (.rep 255 (I .u8 0)) (.one (I .i64 3)))) 127 .exact),
    (30, .cells (.cat (.one (I .u8 0)) (.cat (.rep 255 (I .u8 0)) (.one (I .i64 3)))) 127 .exact),
    (31, .cells (.cat (.one (I .u8 0)) (.cat (.rep 255 (I .u8 0)) (.one (I .i64 3)))) 127 .exact),
    (32, .cells (.cat (.one (I .u8 0)) (.cat (.rep 255 (I .u8 0)) (.one (I .i64 3)))) 127 .exact),
    (33, .cells (.cat (.one (I .u8 0)) (.cat (.rep 255 (I .u8 0)) (.one (I .i64 3)))) 127 .exact),
    (34, .cells (.cat (.one (I .u8 0)) (.cat (.rep 255 (I .u8 0)) (.one (I .i64 3)))) 127 .exact),
    (35, .cells (.cat (.one (I .u8 0)) (.cat (.cat (.rep 127 (I .u8 0)) (.cat (.rep 64 (I .u8 0)) (.cat (.rep 32 (I .u8 0)) (.cat (.rep 16 (I .u8 0)) (.cat (.cat (.cat (.cat (.one (I .u8 0)) (.one (I .u8 0))) (.cat (.one (I .u8 0)) (.one (I .u8 0)))) (.rep 4 (I .u8 0))) (.rep 8 (I .u8 0))))))) (.one (I .i64 3)))) 127 .exact),
    (36, .cells (.cat (.cat (.one (I .u8 0)) (.one (I .u8 16))) (.cat (.one (I .u8 0)) (.one (I .u8 0)))) 5 .open),
    (444, .cells (.cat (.rep 0 (.slice none 0 0)) (.cat (.cat (.cat (.one (.slice none 0 0)) (.cat (.one (.slice none 0 0)) (.one (.slice none 0 0)))) (.rep 3 (I .i64 0))) (.rep 0 (I .i64 0)))) 294 .exact),
    (445, .map (.int .i64) [(I .i64 0, .agg (.cat (.one (Ls 36 0 4 4)) (.cat (.one (I .i64 4)) (.one (.bool false))))), (I .i64 1, .agg (.cat (.one (.slice none 0 0)) (.cat (.one (I .i64 0)) (.one (.bool true))))), (I .i64 2, .agg (.cat (.one (.slice none 0 0)) (.cat (.one (I .i64 0)) (.one (.bool true)))))] 3),
    (446, .map (.int .i64) [] 0),
    (447, .cells (.cat (.one (.slice none 0 0)) (.cat (.one (Pt 444 0)) (.cat (.one (.map (some 445))) (.one (.map (some 446)))))) 229 .exact),
    (456, .cells (.cat (.cat (.cat (.cat (.cat (.cat (.cat (.cat (.cat (.one (I .u8 4)) (.one (I .u8 4))) (.cat (.one (I .u8 4)) (.one (I .u8 4)))) (.rep 4 (I .u8 0))) (.rep 8 (I .u8 0))) (.rep 16 (I .u8 0))) (.rep 32 (I .u8 0))) (.rep 64 (I .u8 0))) (.rep 128 (I .u8 0))) (.one (I .i64 4))) 224 .exact),
    (659, .cells (.cat (.one (I .i64 5)) (.cat (.one (I .u32 4116)) (.cat (.one (I .i64 0)) (.one (I .u8 4))))) 74 .open)]
  n' := 660
theorem qsr0_ok : LQ.Ok CC4 qsr0 := ⟨rfl, rfl, by kernel_rfl⟩
end
end Go.Proofs.YtjdhldfeflmneaaGreat
