/- The code of the functions, for the abstract machine: printed by a program of this claim. -/
import Derived.Test.YthobghcnjampjaaAmA
set_option maxRecDepth 100000
namespace Go.Am.DataWrong
open Go.Am
/- warplaw12.DataWrong -/
def f7 : AFunc :=
 { np := 1, ntmps := 66, results := [.tmp 2], frz := false, body :=
 (.seq (.ops [⟨(some 2), .mv (.c (.bool false)), none, false, []⟩] none)
 (.seq (.ops [⟨(some 12), .bslice false 11 [.str [], .str [], .str [], .str [], .str [], .str [], .str [], .str [], .str [], .str [], .str []] [(0, 1, (.c (.str [100, 97, 116, 97, 32, 73, 110, 116, 32, 61, 32, 65, 59]))), (1, 1, (.c (.str [100, 97, 116, 97, 32, 68, 32, 61, 32, 65, 59, 32, 100, 97, 116, 97, 32, 68, 32, 61, 32, 66, 59]))), (2, 1, (.c (.str [100, 97, 116, 97, 32, 68, 32, 97, 32, 97, 32, 61, 32, 65, 59]))), (3, 1, (.c (.str [100, 97, 116, 97, 32, 68, 32, 61, 32, 65, 59, 32, 100, 97, 116, 97, 32, 69, 32, 61, 32, 65, 59]))), (4, 1, (.c (.str [100, 97, 116, 97, 32, 68, 32, 61, 32, 65, 32, 124, 32, 65, 59]))), (5, 1, (.c (.str [100, 97, 116, 97, 32, 68, 32, 97, 32, 61, 32, 65, 32, 98, 59]))), (6, 1, (.c (.str [100, 97, 116, 97, 32, 68, 32, 61, 32, 65, 32, 88, 59]))), (7, 1, (.c (.str [100, 97, 116, 97, 32, 68, 32, 97, 32, 61, 32, 65, 32, 68, 59]))), (8, 1, (.c (.str [100, 97, 116, 97, 32, 68, 32, 61, 32, 65, 32, 40, 73, 110, 116, 32, 73, 110, 116, 41, 59]))), (9, 1, (.c (.str [100, 97, 116, 97, 32, 68, 32, 97, 32, 61, 32, 65, 32, 40, 97, 32, 45, 62, 32, 40, 68, 44, 32, 73, 110, 116, 41, 41, 59]))), (10, 1, (.c (.str [100, 97, 116, 97, 32, 66, 111, 111, 108, 32, 61, 32, 66, 59])))], none, false, []⟩,
   ⟨(some 3), .mv (.t 12), none, false, []⟩] none)
 (.seq (.ops [⟨(some 13), .bslice false 11 [.int .i64 0, .int .i64 0, .int .i64 0, .int .i64 0, .int .i64 0, .int .i64 0, .int .i64 0, .int .i64 0, .int .i64 0, .int .i64 0, .int .i64 0] [(0, 1, (.c (.int .i64 5))), (1, 1, (.c (.int .i64 17))), (2, 1, (.c (.int .i64 5))), (3, 1, (.c (.int .i64 21))), (4, 1, (.c (.int .i64 13))), (5, 1, (.c (.int .i64 11))), (6, 1, (.c (.int .i64 9))), (7, 1, (.c (.int .i64 11))), (8, 1, (.c (.int .i64 9))), (9, 1, (.c (.int .i64 11))), (10, 1, (.c (.int .i64 5)))], none, false, []⟩,
   ⟨(some 4), .mv (.t 13), none, false, []⟩] none)
 (.seq (.ops [⟨(some 14), .mv (.t 0), none, false, []⟩,
   ⟨(some 15), .cint .i64 (.t 14), none, false, []⟩,
   ⟨(some 16), .mv (.t 3), none, false, []⟩,
   ⟨(some 17), .len 1 (.t 16), none, false, []⟩,
   ⟨(some 18), .bin .sc .rem (.t 15) (.t 17), none, false, []⟩,
   ⟨(some 5), .mv (.t 18), none, false, []⟩] none)
 (.seq (.ops [⟨(some 19), .mv (.t 3), none, false, []⟩,
   ⟨(some 20), .mv (.t 5), none, false, []⟩,
   ⟨(some 21), .iaddr none 1 (.t 19) (.t 20), none, false, []⟩,
   ⟨(some 22), .load false 1 (.t 21), none, false, []⟩,
   ⟨(some 23), .call (.c (.func 12 [] [])) [(.t 22)], none, false, []⟩,
   ⟨(some 6), .alloc true [.pl [] 0 .nil, .pl [] 0 .nil, .int .i64 0, .int .i64 0], none, false, []⟩,
   ⟨none, .store 4 (.t 6) (.t 23), none, false, []⟩] none)
 (.seq (.seq (.ops [⟨(some 24), .faddr 2 (.t 6), none, false, []⟩,
   ⟨(some 25), .load false 1 (.t 24), none, false, []⟩,
   ⟨(some 26), .bin .sc .neq (.t 25) (.c (.int .i64 0)), none, false, []⟩] none)
 (.cond (.t 26) (.seq (.ops [⟨(some 2), .mv (.c (.bool false)), none, false, []⟩] none)
 .ret) .skip))
 (.seq (.ops [⟨(some 28), .faddr 0 (.t 6), none, false, []⟩,
   ⟨(some 29), .faddr 0 (.t 28), none, false, []⟩,
   ⟨(some 30), .load false 1 (.t 29), none, false, []⟩,
   ⟨(some 31), .call (.c (.func 23 [] [])) [(.t 30)], none, false, []⟩,
   ⟨(some 27), .mv (.t 31), none, false, []⟩,
   ⟨(some 32), .extract 0 (.t 27), none, false, []⟩,
   ⟨(some 33), .extract 1 (.t 27), none, false, []⟩,
   ⟨(some 7), .mv (.t 32), none, false, []⟩,
   ⟨(some 8), .mv (.t 33), none, false, []⟩] none)
 (.seq (.ops [⟨(some 34), .call (.c (.func 12 [] [])) [(.c (.str [100, 97, 116, 97, 32, 68, 32, 97, 32, 61, 32, 65, 32, 97, 32, 40, 69, 32, 73, 110, 116, 41, 32, 124, 32, 66, 32, 40, 68, 32, 97, 32, 45, 62, 32, 66, 111, 111, 108, 41, 59, 32, 100, 97, 116, 97, 32, 69, 32, 120, 32, 61, 32, 70, 32, 40, 68, 32, 40, 69, 32, 120, 41, 44, 32, 120, 41, 59]))], none, false, []⟩,
   ⟨(some 9), .alloc true [.pl [] 0 .nil, .pl [] 0 .nil, .int .i64 0, .int .i64 0], none, false, []⟩,
   ⟨none, .store 4 (.t 9) (.t 34), none, false, []⟩] none)
 (.seq (.ops [⟨(some 36), .faddr 0 (.t 9), none, false, []⟩,
   ⟨(some 37), .faddr 0 (.t 36), none, false, []⟩,
   ⟨(some 38), .load false 1 (.t 37), none, false, []⟩,
   ⟨(some 39), .call (.c (.func 23 [] [])) [(.t 38)], none, false, []⟩,
   ⟨(some 35), .mv (.t 39), none, false, []⟩,
   ⟨(some 40), .extract 0 (.t 35), none, false, []⟩,
   ⟨(some 41), .extract 1 (.t 35), none, false, []⟩,
   ⟨(some 10), .mv (.t 40), none, false, []⟩,
   ⟨(some 11), .mv (.t 41), none, false, []⟩] none)
 (.seq (.ops [⟨(some 42), .mv (.t 7), none, false, []⟩,
   ⟨(some 43), .call (.c (.func 24 [] [])) [(.t 42)], none, false, []⟩,
   ⟨(some 44), .bin .sc .eql (.t 43) (.c (.int .i64 6)), none, false, []⟩,
   ⟨(some 45), .mv (.t 44), none, false, []⟩,
   ⟨(some 46), .mv (.t 8), (some (45, true)), false, []⟩,
   ⟨(some 47), .mv (.t 4), (some (45, true)), false, []⟩,
   ⟨(some 48), .mv (.t 5), (some (45, true)), false, []⟩,
   ⟨(some 49), .iaddr none 1 (.t 47) (.t 48), (some (45, true)), false, []⟩,
   ⟨(some 50), .load false 1 (.t 49), (some (45, true)), false, []⟩,
   ⟨(some 51), .bin .sc .eql (.t 46) (.t 50), (some (45, true)), false, []⟩,
   ⟨(some 52), .pick (.t 45) (.t 51) (.c (.bool false)), none, false, []⟩,
   ⟨(some 53), .mv (.t 52), none, false, []⟩,
   ⟨(some 54), .faddr 2 (.t 9), (some (53, true)), false, []⟩,
   ⟨(some 55), .load false 1 (.t 54), (some (53, true)), false, []⟩,
   ⟨(some 56), .bin .sc .eql (.t 55) (.c (.int .i64 0)), (some (53, true)), false, []⟩,
   ⟨(some 57), .pick (.t 53) (.t 56) (.c (.bool false)), none, false, []⟩,
   ⟨(some 58), .mv (.t 57), none, false, []⟩,
   ⟨(some 59), .mv (.t 10), (some (58, true)), false, []⟩,
   ⟨(some 60), .call (.c (.func 24 [] [])) [(.t 59)], (some (58, true)), false, []⟩,
   ⟨(some 61), .bin .sc .eql (.t 60) (.c (.int .i64 0)), (some (58, true)), false, []⟩,
   ⟨(some 62), .pick (.t 58) (.t 61) (.c (.bool false)), none, false, []⟩,
   ⟨(some 63), .mv (.t 62), none, false, []⟩,
   ⟨(some 64), .call (.c (.func 25 [] [])) [], (some (63, true)), false, []⟩,
   ⟨(some 65), .pick (.t 63) (.t 64) (.c (.bool false)), none, false, []⟩,
   ⟨(some 2), .mv (.t 65), none, false, []⟩] none)
 .ret)))))))))) }
/- warpref9.Parse -/
def f12 : AFunc :=
 { np := 1, ntmps := 155, results := [.cell 2 4 true], frz := false, body :=
 (.seq (.ops [⟨(some 2), .alloc true [.pl [] 0 .nil, .pl [] 0 .nil, .int .i64 0, .int .i64 0], none, false, []⟩] none)
 (.seq (.ops [⟨(some 14), .mv (.t 0), none, false, []⟩,
   ⟨(some 15), .call (.c (.func 32 [] [])) [(.t 14)], none, false, []⟩,
   ⟨(some 3), .alloc true [.pl [] 0 .nil, .int .i64 0, .int .i64 0], none, false, []⟩,
   ⟨none, .store 3 (.t 3) (.t 15), none, false, []⟩] none)
 (.seq (.seq (.ops [⟨(some 16), .faddr 1 (.t 3), none, false, []⟩,
   ⟨(some 17), .load false 1 (.t 16), none, false, []⟩,
   ⟨(some 18), .bin .sc .neq (.t 17) (.c (.int .i64 0)), none, false, []⟩] none)
 (.cond (.t 18) (.seq (.ops [⟨(some 19), .faddr 1 (.t 3), none, false, []⟩,
   ⟨(some 20), .load false 1 (.t 19), none, false, []⟩,
   ⟨(some 21), .faddr 2 (.t 3), none, false, []⟩,
   ⟨(some 22), .load false 1 (.t 21), none, false, []⟩,
   ⟨(some 23), .build [.pl [] 0 .nil, .pl [] 0 .nil, .int .i64 0, .int .i64 0] [(2, 1, (.t 20)), (3, 1, (.t 22))], none, false, []⟩,
   ⟨none, .store 4 (.t 2) (.t 23), none, false, []⟩] none)
 .ret) .skip))
 (.seq (.ops [⟨(some 24), .faddr 0 (.t 3), none, false, []⟩,
   ⟨(some 25), .load false 1 (.t 24), none, false, []⟩,
   ⟨(some 26), .mv (.t 0), none, false, []⟩,
   ⟨(some 27), .len 0 (.t 26), none, false, []⟩,
   ⟨(some 28), .build [.pl [] 0 .nil, .int .i64 0, .int .i64 0, .bool false, .int .i64 0] [(0, 1, (.t 25)), (2, 1, (.t 27))], none, false, []⟩,
   ⟨(some 29), .box false (.t 28), none, false, []⟩,
   ⟨(some 4), .mv (.t 29), none, false, []⟩] none)
 (.seq (.ops [⟨(some 5), .alloc true [.pl [] 0 .nil, .pl [] 0 .nil], none, false, []⟩] none)
 (.seq (.block 0 (.loop (.seq (.seq (.ops [⟨(some 30), .mv (.t 4), none, false, []⟩,
   ⟨(some 31), .nilck (.t 30), none, false, []⟩,
   ⟨(some 32), .faddr 1 (.t 31), none, false, []⟩,
   ⟨(some 33), .load false 1 (.t 32), none, false, []⟩,
   ⟨(some 34), .mv (.t 4), none, false, []⟩,
   ⟨(some 35), .nilck (.t 34), none, false, []⟩,
   ⟨(some 36), .faddr 0 (.t 35), none, false, []⟩,
   ⟨(some 37), .load false 1 (.t 36), none, false, []⟩,
   ⟨(some 38), .len 1 (.t 37), none, false, []⟩,
   ⟨(some 39), .bin .sc .lss (.t 33) (.t 38), none, false, []⟩,
   ⟨(some 40), .mv (.t 39), none, false, []⟩,
   ⟨(some 41), .mv (.t 4), (some (40, true)), false, []⟩,
   ⟨(some 42), .nilck (.t 41), (some (40, true)), false, []⟩,
   ⟨(some 43), .faddr 3 (.t 42), (some (40, true)), false, []⟩,
   ⟨(some 44), .load false 1 (.t 43), (some (40, true)), false, []⟩,
   ⟨(some 45), .not (.t 44), (some (40, true)), false, []⟩,
   ⟨(some 46), .pick (.t 40) (.t 45) (.c (.bool false)), none, false, []⟩] (some [[], [0], [0, 1], [0, 1, 2], [], [4], [4, 5], [4, 5, 6], [4, 5, 6, 7], [0, 1, 2, 3, 4, 5, 6, 7, 8], [0, 1, 2, 3, 4, 5, 6, 7, 8, 9], [0, 1, 2, 3, 4, 5, 6, 7, 8, 9, 10], [0, 1, 2, 3, 4, 5, 6, 7, 8, 9, 10, 11], [0, 1, 2, 3, 4, 5, 6, 7, 8, 9, 10, 11, 12], [0, 1, 2, 3, 4, 5, 6, 7, 8, 9, 10, 11, 12, 13], [0, 1, 2, 3, 4, 5, 6, 7, 8, 9, 10, 11, 12, 13, 14], [0, 1, 2, 3, 4, 5, 6, 7, 8, 9, 10, 11, 12, 13, 14, 15]]))
 (.cond (.t 46) .skip (.exit 0)))
 (.block 1 (.seq (.seq (.ops [⟨(some 47), .mv (.t 4), none, false, []⟩,
   ⟨(some 48), .call (.c (.func 33 [] [])) [(.t 47), (.c (.int .i64 4)), (.c (.str [100, 97, 116, 97]))], none, false, []⟩] none)
 (.cond (.t 48) (.seq (.ops [⟨(some 49), .mv (.t 4), none, false, []⟩,
   ⟨(some 50), .nilck (.t 49), none, false, []⟩,
   ⟨(some 51), .faddr 1 (.t 50), none, false, []⟩,
   ⟨(some 52), .load false 1 (.t 51), none, false, []⟩,
   ⟨(some 53), .bin .sc .add (.t 52) (.c (.int .i64 1)), none, false, []⟩,
   ⟨(some 54), .nilck (.t 49), none, false, []⟩,
   ⟨(some 55), .faddr 1 (.t 54), none, false, []⟩,
   ⟨none, .store 1 (.t 55) (.t 53), none, false, []⟩] none)
 (.seq (.ops [⟨(some 56), .mv (.t 4), none, false, []⟩,
   ⟨(some 57), .call (.c (.func 34 [] [])) [(.t 56), (.c (.int .i64 2)), (.c (.str []))], none, false, []⟩,
   ⟨(some 6), .alloc true [.int .i64 0, .int .i64 0, .str [], .int .i64 0], none, false, []⟩,
   ⟨none, .store 4 (.t 6) (.t 57), none, false, []⟩] none)
 (.seq (.ops [⟨(some 58), .mv (.t 4), none, false, []⟩,
   ⟨(some 59), .call (.c (.func 35 [] [])) [(.t 58)], none, false, []⟩,
   ⟨(some 7), .mv (.t 59), none, false, []⟩] none)
 (.seq (.ops [⟨(some 60), .faddr 2 (.t 6), none, false, []⟩,
   ⟨(some 61), .load false 1 (.t 60), none, false, []⟩,
   ⟨(some 62), .faddr 1 (.t 6), none, false, []⟩,
   ⟨(some 63), .load false 1 (.t 62), none, false, []⟩,
   ⟨(some 64), .build [.str [], .int .i64 0, .pl [] 0 .nil, .pl [] 0 .nil] [(0, 1, (.t 61)), (1, 1, (.t 63))], none, false, []⟩,
   ⟨(some 8), .alloc true [.str [], .int .i64 0, .pl [] 0 .nil, .pl [] 0 .nil], none, false, []⟩,
   ⟨none, .store 4 (.t 8) (.t 64), none, false, []⟩] none)
 (.seq (.seq (.ops [⟨(some 9), .mv (.c (.int .i64 0)), none, false, []⟩] none)
 (.block 2 (.loop (.seq (.seq (.ops [⟨(some 65), .mv (.t 9), none, false, []⟩,
   ⟨(some 66), .mv (.t 7), none, false, []⟩,
   ⟨(some 67), .len 1 (.t 66), none, false, []⟩,
   ⟨(some 68), .bin .sc .lss (.t 65) (.t 67), none, false, []⟩] none)
 (.cond (.t 68) .skip (.exit 2)))
 (.seq (.block 3 (.ops [⟨(some 71), .faddr 2 (.t 8), none, false, []⟩,
   ⟨(some 72), .load false 1 (.t 71), none, false, []⟩,
   ⟨(some 73), .mv (.t 7), none, false, []⟩,
   ⟨(some 74), .mv (.t 9), none, false, []⟩,
   ⟨(some 75), .iaddr none 4 (.t 73) (.t 74), none, false, []⟩,
   ⟨(some 76), .faddr 2 (.t 75), none, false, []⟩,
   ⟨(some 77), .load false 1 (.t 76), none, false, []⟩,
   ⟨(some 78), .bslice false 1 [.str []] [(0, 1, (.t 77))], none, false, []⟩,
   ⟨(some 79), .app false 1 16 (.t 72) (.t 78), none, false, []⟩,
   ⟨(some 80), .faddr 2 (.t 8), none, false, []⟩,
   ⟨none, .store 1 (.t 80) (.t 79), none, false, []⟩] (some [[], [0], [], [], [2, 3], [2, 3, 4], [2, 3, 4, 5], [2, 3, 4, 5, 6], [0, 1, 2, 3, 4, 5, 6, 7], [0, 1, 2, 3, 4, 5, 6, 7, 8], [0, 1, 2, 3, 4, 5, 6, 7, 8, 9]])))
 (.ops [⟨(some 69), .mv (.t 9), none, false, []⟩,
   ⟨(some 70), .bin .sc .add (.t 69) (.c (.int .i64 1)), none, false, []⟩,
   ⟨(some 9), .mv (.t 70), none, false, []⟩] none))))))
 (.seq (.ops [⟨(some 81), .mv (.t 4), none, false, []⟩,
   ⟨(some 82), .call (.c (.func 36 [] [])) [(.t 81), (.c (.str [61]))], none, false, []⟩] none)
 (.seq (.ops [⟨(some 83), .faddr 3 (.t 8), none, false, []⟩,
   ⟨(some 84), .load false 1 (.t 83), none, true, []⟩,
   ⟨(some 85), .mv (.t 4), none, false, []⟩,
   ⟨(some 86), .faddr 2 (.t 8), none, false, []⟩,
   ⟨(some 87), .load false 1 (.t 86), none, false, []⟩,
   ⟨(some 88), .call (.c (.func 37 [] [])) [(.t 85), (.t 87)], none, false, []⟩,
   ⟨(some 89), .bslice false 1 [.str [], .int .i64 0, .pl [] 0 .nil] [(0, 3, (.t 88))], none, false, []⟩,
   ⟨(some 90), .app false 3 48 (.t 84) (.t 89), none, false, []⟩,
   ⟨(some 91), .faddr 3 (.t 8), none, false, []⟩,
   ⟨none, .store 1 (.t 91) (.t 90), none, false, []⟩] (some [[], [0], [], [], [3], [2, 3, 4], [2, 3, 4, 5], [0, 1, 2, 3, 4, 5, 6], [0, 1, 2, 3, 4, 5, 6, 7], [0, 1, 2, 3, 4, 5, 6, 7, 8]]))
 (.seq (.block 4 (.loop (.seq (.seq (.ops [⟨(some 92), .mv (.t 4), none, false, []⟩,
   ⟨(some 93), .call (.c (.func 38 [] [])) [(.t 92), (.c (.str [124]))], none, false, []⟩] none)
 (.cond (.t 93) .skip (.exit 4)))
 (.block 5 (.ops [⟨(some 94), .faddr 3 (.t 8), none, false, []⟩,
   ⟨(some 95), .load false 1 (.t 94), none, true, []⟩,
   ⟨(some 96), .mv (.t 4), none, false, []⟩,
   ⟨(some 97), .faddr 2 (.t 8), none, false, []⟩,
   ⟨(some 98), .load false 1 (.t 97), none, false, []⟩,
   ⟨(some 99), .call (.c (.func 37 [] [])) [(.t 96), (.t 98)], none, false, []⟩,
   ⟨(some 100), .bslice false 1 [.str [], .int .i64 0, .pl [] 0 .nil] [(0, 3, (.t 99))], none, false, []⟩,
   ⟨(some 101), .app false 3 48 (.t 95) (.t 100), none, false, []⟩,
   ⟨(some 102), .faddr 3 (.t 8), none, false, []⟩,
   ⟨none, .store 1 (.t 102) (.t 101), none, false, []⟩] (some [[], [0], [], [], [3], [2, 3, 4], [2, 3, 4, 5], [0, 1, 2, 3, 4, 5, 6], [0, 1, 2, 3, 4, 5, 6, 7], [0, 1, 2, 3, 4, 5, 6, 7, 8]]))))))
 (.seq (.ops [⟨(some 103), .mv (.t 4), none, false, []⟩,
   ⟨(some 104), .call (.c (.func 36 [] [])) [(.t 103), (.c (.str [59]))], none, false, []⟩] none)
 (.seq (.ops [⟨(some 105), .faddr 0 (.t 5), none, false, []⟩,
   ⟨(some 106), .load false 1 (.t 105), none, false, []⟩,
   ⟨(some 107), .load true 4 (.t 8), none, false, []⟩,
   ⟨(some 108), .bslice false 1 [.str [], .int .i64 0, .pl [] 0 .nil, .pl [] 0 .nil] [(0, 4, (.t 107))], none, false, []⟩,
   ⟨(some 109), .app false 4 72 (.t 106) (.t 108), none, false, []⟩,
   ⟨(some 110), .faddr 0 (.t 5), none, false, []⟩,
   ⟨none, .store 1 (.t 110) (.t 109), none, false, []⟩] none)
 (.exit 1))))))))))) .skip))
 (.seq (.ops [⟨(some 111), .mv (.t 4), none, false, []⟩,
   ⟨(some 112), .call (.c (.func 34 [] [])) [(.t 111), (.c (.int .i64 4)), (.c (.str [108, 101, 116]))], none, false, []⟩] none)
 (.seq (.ops [⟨(some 113), .mv (.t 4), none, false, []⟩,
   ⟨(some 114), .call (.c (.func 34 [] [])) [(.t 113), (.c (.int .i64 1)), (.c (.str []))], none, false, []⟩,
   ⟨(some 10), .alloc true [.int .i64 0, .int .i64 0, .str [], .int .i64 0], none, false, []⟩,
   ⟨none, .store 4 (.t 10) (.t 114), none, false, []⟩] none)
 (.seq (.ops [⟨(some 115), .mv (.t 4), none, false, []⟩,
   ⟨(some 116), .call (.c (.func 35 [] [])) [(.t 115)], none, false, []⟩,
   ⟨(some 11), .mv (.t 116), none, false, []⟩] none)
 (.seq (.ops [⟨(some 117), .mv (.t 4), none, false, []⟩,
   ⟨(some 118), .call (.c (.func 36 [] [])) [(.t 117), (.c (.str [61]))], none, false, []⟩] none)
 (.seq (.ops [⟨(some 119), .mv (.t 11), none, false, []⟩,
   ⟨(some 120), .faddr 1 (.t 10), none, false, []⟩,
   ⟨(some 121), .load false 1 (.t 120), none, true, []⟩,
   ⟨(some 122), .mv (.t 4), none, false, []⟩,
   ⟨(some 123), .call (.c (.func 40 [] [])) [(.t 122)], none, false, []⟩,
   ⟨(some 124), .call (.c (.func 39 [] [])) [(.t 119), (.t 121), (.t 123)], none, false, []⟩,
   ⟨(some 12), .alloc true [.int .i64 0, .int .i64 0, .str [], .int .i64 0, .pl [] 0 .nil, .pl [] 0 .nil], none, false, []⟩,
   ⟨none, .store 6 (.t 12) (.t 124), none, false, []⟩] (some [[], [], [1], [], [3], [0, 1, 2, 3, 4], [], [0, 1, 2, 3, 4, 5, 6]]))
 (.seq (.ops [⟨(some 125), .mv (.t 4), none, false, []⟩,
   ⟨(some 126), .call (.c (.func 36 [] [])) [(.t 125), (.c (.str [59]))], none, false, []⟩] none)
 (.ops [⟨(some 127), .faddr 1 (.t 5), none, false, []⟩,
   ⟨(some 128), .load false 1 (.t 127), none, false, []⟩,
   ⟨(some 129), .faddr 2 (.t 10), none, false, []⟩,
   ⟨(some 130), .load false 1 (.t 129), none, false, []⟩,
   ⟨(some 131), .faddr 1 (.t 10), none, false, []⟩,
   ⟨(some 132), .load false 1 (.t 131), none, false, []⟩,
   ⟨(some 133), .load true 6 (.t 12), none, false, []⟩,
   ⟨(some 134), .build [.str [], .int .i64 0, .int .i64 0, .int .i64 0, .str [], .int .i64 0, .pl [] 0 .nil, .pl [] 0 .nil] [(0, 1, (.t 130)), (1, 1, (.t 132)), (2, 6, (.t 133))], none, false, []⟩,
   ⟨(some 135), .bslice false 1 [.str [], .int .i64 0, .int .i64 0, .int .i64 0, .str [], .int .i64 0, .pl [] 0 .nil, .pl [] 0 .nil] [(0, 8, (.t 134))], none, false, []⟩,
   ⟨(some 136), .app false 8 112 (.t 128) (.t 135), none, false, []⟩,
   ⟨(some 137), .faddr 1 (.t 5), none, false, []⟩,
   ⟨none, .store 1 (.t 137) (.t 136), none, false, []⟩] none))))))))))))
 (.seq (.seq (.ops [⟨(some 138), .mv (.t 4), none, false, []⟩,
   ⟨(some 139), .nilck (.t 138), none, false, []⟩,
   ⟨(some 140), .faddr 3 (.t 139), none, false, []⟩,
   ⟨(some 141), .load false 1 (.t 140), none, false, []⟩] none)
 (.cond (.t 141) (.seq (.ops [⟨(some 142), .mv (.t 4), none, false, []⟩,
   ⟨(some 143), .nilck (.t 142), none, false, []⟩,
   ⟨(some 144), .faddr 4 (.t 143), none, false, []⟩,
   ⟨(some 145), .load false 1 (.t 144), none, false, []⟩,
   ⟨(some 146), .build [.pl [] 0 .nil, .pl [] 0 .nil, .int .i64 0, .int .i64 0] [(2, 1, (.c (.int .i64 4))), (3, 1, (.t 145))], none, false, []⟩,
   ⟨none, .store 4 (.t 2) (.t 146), none, false, []⟩] none)
 .ret) .skip))
 (.seq (.seq (.ops [⟨(some 147), .load true 2 (.t 5), none, false, []⟩,
   ⟨(some 148), .call (.c (.func 41 [] [])) [(.t 147)], none, false, []⟩,
   ⟨(some 13), .mv (.t 148), none, false, []⟩] none)
 (.seq (.ops [⟨(some 149), .mv (.t 13), none, false, []⟩,
   ⟨(some 150), .bin .sc .geq (.t 149) (.c (.int .i64 0)), none, false, []⟩] none)
 (.cond (.t 150) (.seq (.ops [⟨(some 151), .mv (.t 13), none, false, []⟩,
   ⟨(some 152), .build [.pl [] 0 .nil, .pl [] 0 .nil, .int .i64 0, .int .i64 0] [(2, 1, (.c (.int .i64 5))), (3, 1, (.t 151))], none, false, []⟩,
   ⟨none, .store 4 (.t 2) (.t 152), none, false, []⟩] none)
 .ret) .skip)))
 (.seq (.ops [⟨(some 153), .load true 2 (.t 5), none, false, []⟩,
   ⟨(some 154), .build [.pl [] 0 .nil, .pl [] 0 .nil, .int .i64 0, .int .i64 0] [(0, 2, (.t 153))], none, false, []⟩,
   ⟨none, .store 4 (.t 2) (.t 154), none, false, []⟩] none)
 .ret))))))))) }
/- data.Check -/
def f23 : AFunc :=
 { np := 1, ntmps := 61, results := [.tmp 2, .tmp 3], frz := false, body :=
 (.seq (.ops [⟨(some 1), .box false (.t 0), none, false, []⟩,
   ⟨(some 2), .mv (.c (.int .i64 0)), none, false, []⟩,
   ⟨(some 3), .mv (.c (.int .i64 0)), none, false, []⟩] none)
 (.seq (.ops [⟨(some 9), .mkmap, none, false, []⟩,
   ⟨(some 10), .build [.str [], .bool false] [(0, 1, (.c (.str [73, 110, 116])))], none, false, []⟩,
   ⟨none, .ins (.flat [.s, .b]) (.t 9) (.t 10) (.c (.bool true)), none, false, []⟩,
   ⟨(some 11), .build [.str [], .bool false] [(0, 1, (.c (.str [66, 111, 111, 108])))], none, false, []⟩,
   ⟨none, .ins (.flat [.s, .b]) (.t 9) (.t 11) (.c (.bool true)), none, false, []⟩,
   ⟨(some 12), .mv (.t 9), none, false, []⟩,
   ⟨(some 4), .mv (.t 12), none, false, []⟩] (some [[], [], [0, 1], [], [0, 3], [0, 1, 2, 3, 4], [0, 1, 2, 3, 4, 5]]))
 (.seq (.seq (.ops [⟨(some 13), .load false 1 (.t 1), none, false, []⟩,
   ⟨(some 14), .len 1 (.t 13), none, false, []⟩,
   ⟨(some 15), .mv (.c (.int .i64 0)), none, false, []⟩] none)
 (.block 0 (.loop (.seq (.ops [⟨(some 16), .bin .sc .lss (.t 15) (.t 14), none, false, []⟩] none)
 (.seq (.cond (.t 16) .skip (.exit 0))
 (.seq (.block 1 (.seq (.ops [⟨(some 17), .iaddr none 4 (.t 13) (.t 15), none, false, []⟩,
   ⟨(some 18), .load true 4 (.t 17), none, false, []⟩,
   ⟨(some 6), .alloc false [.str [], .int .i64 0, .pl [] 0 .nil, .pl [] 0 .nil], none, false, []⟩,
   ⟨none, .store 4 (.t 6) (.t 18), none, false, []⟩] none)
 (.seq (.seq (.ops [⟨(some 19), .mv (.t 4), none, false, []⟩,
   ⟨(some 20), .faddr 0 (.t 6), none, false, []⟩,
   ⟨(some 21), .load false 1 (.t 20), none, false, []⟩,
   ⟨(some 22), .build [.str [], .bool false] [(0, 1, (.t 21))], none, false, []⟩,
   ⟨(some 23), .lookup (.flat [.s, .b]) (.bool false) false (.t 19) (.t 22), none, false, []⟩,
   ⟨(some 24), .mv (.t 23), none, false, []⟩,
   ⟨(some 25), .faddr 2 (.t 6), (some (24, false)), false, []⟩,
   ⟨(some 26), .load false 1 (.t 25), (some (24, false)), false, []⟩,
   ⟨(some 27), .call (.c (.func 51 [] [])) [(.t 26)], (some (24, false)), false, []⟩,
   ⟨(some 28), .pick (.t 24) (.c (.bool true)) (.t 27), none, false, []⟩] none)
 (.cond (.t 28) (.seq (.ops [⟨(some 29), .faddr 1 (.t 6), none, false, []⟩,
   ⟨(some 30), .load false 1 (.t 29), none, false, []⟩,
   ⟨(some 2), .mv (.c (.int .i64 6)), none, false, []⟩,
   ⟨(some 3), .mv (.t 30), none, false, []⟩] (some [[], [0], [], [0, 1, 2]]))
 .ret) .skip))
 (.seq (.ops [⟨(some 31), .mv (.t 4), none, false, []⟩,
   ⟨(some 32), .faddr 0 (.t 6), none, false, []⟩,
   ⟨(some 33), .load false 1 (.t 32), none, false, []⟩,
   ⟨(some 34), .build [.str [], .bool false] [(0, 1, (.t 33))], none, false, []⟩,
   ⟨none, .mupd (.flat [.s, .b]) (.t 31) (.t 34) (.c (.bool true)), none, false, []⟩] none)
 (.seq (.ops [⟨(some 35), .faddr 3 (.t 6), none, false, []⟩,
   ⟨(some 36), .load false 1 (.t 35), none, false, []⟩,
   ⟨(some 37), .len 1 (.t 36), none, false, []⟩,
   ⟨(some 38), .mv (.c (.int .i64 0)), none, false, []⟩] none)
 (.block 2 (.loop (.seq (.ops [⟨(some 39), .bin .sc .lss (.t 38) (.t 37), none, false, []⟩] none)
 (.seq (.cond (.t 39) .skip (.exit 2))
 (.seq (.block 3 (.seq (.ops [⟨(some 40), .iaddr none 3 (.t 36) (.t 38), none, false, []⟩,
   ⟨(some 41), .load true 3 (.t 40), none, false, []⟩,
   ⟨(some 8), .alloc true [.str [], .int .i64 0, .pl [] 0 .nil], none, false, []⟩,
   ⟨none, .store 3 (.t 8) (.t 41), none, false, []⟩] none)
 (.seq (.seq (.ops [⟨(some 42), .mv (.t 4), none, false, []⟩,
   ⟨(some 43), .faddr 0 (.t 8), none, false, []⟩,
   ⟨(some 44), .load false 1 (.t 43), none, false, []⟩,
   ⟨(some 45), .build [.str [], .bool false] [(0, 1, (.t 44)), (1, 1, (.c (.bool true)))], none, false, []⟩,
   ⟨(some 46), .lookup (.flat [.s, .b]) (.bool false) false (.t 42) (.t 45), none, false, []⟩,
   ⟨(some 47), .mv (.t 46), none, false, []⟩,
   ⟨(some 48), .faddr 2 (.t 8), (some (47, false)), false, []⟩,
   ⟨(some 49), .load false 1 (.t 48), (some (47, false)), false, []⟩,
   ⟨(some 50), .mkfun 53 [] [(.t 1), (.t 6)], (some (47, false)), false, []⟩,
   ⟨(some 51), .call (.c (.func 52 [] [])) [(.t 49), (.t 50)], (some (47, false)), false, []⟩,
   ⟨(some 52), .pick (.t 47) (.c (.bool true)) (.t 51), none, false, []⟩] none)
 (.cond (.t 52) (.seq (.ops [⟨(some 53), .faddr 1 (.t 8), none, false, []⟩,
   ⟨(some 54), .load false 1 (.t 53), none, false, []⟩,
   ⟨(some 2), .mv (.c (.int .i64 6)), none, false, []⟩,
   ⟨(some 3), .mv (.t 54), none, false, []⟩] (some [[], [0], [], [0, 1, 2]]))
 .ret) .skip))
 (.ops [⟨(some 55), .mv (.t 4), none, false, []⟩,
   ⟨(some 56), .faddr 0 (.t 8), none, false, []⟩,
   ⟨(some 57), .load false 1 (.t 56), none, false, []⟩,
   ⟨(some 58), .build [.str [], .bool false] [(0, 1, (.t 57)), (1, 1, (.c (.bool true)))], none, false, []⟩,
   ⟨none, .mupd (.flat [.s, .b]) (.t 55) (.t 58) (.c (.bool true)), none, false, []⟩] none))))
 (.ops [⟨(some 59), .bin .sc .add (.t 38) (.c (.int .i64 1)), none, false, []⟩,
   ⟨(some 38), .mv (.t 59), none, false, []⟩] none)))))))))))
 (.ops [⟨(some 60), .bin .sc .add (.t 15) (.c (.int .i64 1)), none, false, []⟩,
   ⟨(some 15), .mv (.t 60), none, false, []⟩] none)))))))
 (.seq (.ops [⟨(some 2), .mv (.c (.int .i64 0)), none, false, []⟩,
   ⟨(some 3), .mv (.c (.int .i64 0)), none, false, []⟩] none)
 .ret)))) }
/- warplaw1.Num -/
def f24 : AFunc :=
 { np := 1, ntmps := 4, results := [.tmp 2], frz := false, body :=
 (.seq (.ops [⟨(some 2), .mv (.c (.int .i64 0)), none, false, []⟩] none)
 (.seq (.ops [⟨(some 3), .mv (.t 0), none, false, []⟩,
   ⟨(some 2), .mv (.t 3), none, false, []⟩] none)
 .ret)) }
/- warplaw12.awake -/
def f25 : AFunc :=
 { np := 0, ntmps := 27, results := [.tmp 0], frz := false, body :=
 (.seq (.ops [⟨(some 0), .mv (.c (.bool false)), none, false, []⟩] none)
 (.seq (.ops [⟨(some 6), .call (.c (.func 23 [] [])) [(.c (.pl [] 0 .nil))], none, false, []⟩,
   ⟨(some 5), .mv (.t 6), none, false, []⟩,
   ⟨(some 7), .extract 0 (.t 5), none, false, []⟩,
   ⟨(some 8), .extract 1 (.t 5), none, false, []⟩,
   ⟨(some 1), .mv (.t 7), none, false, []⟩,
   ⟨(some 2), .mv (.t 8), none, false, []⟩] none)
 (.seq (.ops [⟨(some 10), .build [.str [], .int .i64 0, .pl [] 0 .nil, .pl [] 0 .nil] [(0, 1, (.c (.str [73, 110, 116]))), (1, 1, (.c (.int .i64 5)))], none, false, []⟩,
   ⟨(some 11), .bslice false 1 [.str [], .int .i64 0, .pl [] 0 .nil, .pl [] 0 .nil] [(0, 4, (.t 10))], none, false, []⟩,
   ⟨(some 12), .call (.c (.func 23 [] [])) [(.t 11)], none, false, []⟩,
   ⟨(some 9), .mv (.t 12), none, false, []⟩,
   ⟨(some 13), .extract 0 (.t 9), none, false, []⟩,
   ⟨(some 14), .extract 1 (.t 9), none, false, []⟩,
   ⟨(some 3), .mv (.t 13), none, false, []⟩,
   ⟨(some 4), .mv (.t 14), none, false, []⟩] none)
 (.seq (.ops [⟨(some 15), .mv (.t 1), none, false, []⟩,
   ⟨(some 16), .call (.c (.func 24 [] [])) [(.t 15)], none, false, []⟩,
   ⟨(some 17), .bin .sc .eql (.t 16) (.c (.int .i64 0)), none, false, []⟩,
   ⟨(some 18), .mv (.t 17), none, false, []⟩,
   ⟨(some 19), .mv (.t 3), (some (18, true)), false, []⟩,
   ⟨(some 20), .call (.c (.func 24 [] [])) [(.t 19)], (some (18, true)), false, []⟩,
   ⟨(some 21), .bin .sc .eql (.t 20) (.c (.int .i64 6)), (some (18, true)), false, []⟩,
   ⟨(some 22), .pick (.t 18) (.t 21) (.c (.bool false)), none, false, []⟩,
   ⟨(some 23), .mv (.t 22), none, false, []⟩,
   ⟨(some 24), .mv (.t 4), (some (23, true)), false, []⟩,
   ⟨(some 25), .bin .sc .eql (.t 24) (.c (.int .i64 5)), (some (23, true)), false, []⟩,
   ⟨(some 26), .pick (.t 23) (.t 25) (.c (.bool false)), none, false, []⟩,
   ⟨(some 0), .mv (.t 26), none, false, []⟩] none)
 .ret)))) }
/- warpref9.Lex -/
def f32 : AFunc :=
 { np := 1, ntmps := 203, results := [.cell 2 3 true], frz := false, body :=
 (.seq (.ops [⟨(some 2), .alloc true [.pl [] 0 .nil, .int .i64 0, .int .i64 0], none, false, []⟩] none)
 (.seq (.seq (.ops [⟨(some 8), .mv (.t 0), none, false, []⟩,
   ⟨(some 9), .len 0 (.t 8), none, false, []⟩,
   ⟨(some 10), .bin .sc .gtr (.t 9) (.c (.int .i64 65536)), none, false, []⟩] none)
 (.cond (.t 10) (.seq (.ops [⟨(some 11), .build [.pl [] 0 .nil, .int .i64 0, .int .i64 0] [(1, 1, (.c (.int .i64 1)))], none, false, []⟩,
   ⟨none, .store 3 (.t 2) (.t 11), none, false, []⟩] none)
 .ret) .skip))
 (.seq (.ops [⟨(some 3), .alloc true [.pl [] 0 .nil, .int .i64 0, .int .i64 0], none, false, []⟩] none)
 (.seq (.seq (.ops [⟨(some 4), .mv (.c (.int .i64 0)), none, false, []⟩] none)
 (.block 0 (.loop (.seq (.seq (.ops [⟨(some 12), .mv (.t 4), none, false, []⟩,
   ⟨(some 13), .mv (.t 0), none, false, []⟩,
   ⟨(some 14), .len 0 (.t 13), none, false, []⟩,
   ⟨(some 15), .bin .sc .lss (.t 12) (.t 14), none, false, []⟩] none)
 (.cond (.t 15) .skip (.exit 0)))
 (.block 1 (.seq (.ops [⟨(some 16), .mv (.t 0), none, false, []⟩,
   ⟨(some 17), .mv (.t 4), none, false, []⟩,
   ⟨(some 18), .index (.t 16) (.t 17), none, false, []⟩,
   ⟨(some 5), .mv (.t 18), none, false, []⟩] none)
 (.seq (.seq (.ops [⟨(some 19), .mv (.t 5), none, false, []⟩,
   ⟨(some 20), .bin .sc .eql (.t 19) (.c (.int .u8 32)), none, false, []⟩,
   ⟨(some 21), .mv (.t 20), none, false, []⟩,
   ⟨(some 22), .mv (.t 5), (some (21, false)), false, []⟩,
   ⟨(some 23), .bin .sc .eql (.t 22) (.c (.int .u8 9)), (some (21, false)), false, []⟩,
   ⟨(some 24), .pick (.t 21) (.c (.bool true)) (.t 23), none, false, []⟩,
   ⟨(some 25), .mv (.t 24), none, false, []⟩,
   ⟨(some 26), .mv (.t 5), (some (25, false)), false, []⟩,
   ⟨(some 27), .bin .sc .eql (.t 26) (.c (.int .u8 10)), (some (25, false)), false, []⟩,
   ⟨(some 28), .pick (.t 25) (.c (.bool true)) (.t 27), none, false, []⟩] none)
 (.cond (.t 28) (.seq (.ops [⟨(some 29), .mv (.t 4), none, false, []⟩,
   ⟨(some 30), .bin .sc .add (.t 29) (.c (.int .i64 1)), none, false, []⟩,
   ⟨(some 4), .mv (.t 30), none, false, []⟩] none)
 (.exit 1)) .skip))
 (.seq (.seq (.ops [⟨(some 31), .mv (.t 5), none, false, []⟩,
   ⟨(some 32), .bin .sc .eql (.t 31) (.c (.int .u8 45)), none, false, []⟩,
   ⟨(some 33), .mv (.t 32), none, false, []⟩,
   ⟨(some 34), .mv (.t 4), (some (33, true)), false, []⟩,
   ⟨(some 35), .bin .sc .add (.t 34) (.c (.int .i64 1)), (some (33, true)), false, []⟩,
   ⟨(some 36), .mv (.t 0), (some (33, true)), false, []⟩,
   ⟨(some 37), .len 0 (.t 36), (some (33, true)), false, []⟩,
   ⟨(some 38), .bin .sc .lss (.t 35) (.t 37), (some (33, true)), false, []⟩,
   ⟨(some 39), .pick (.t 33) (.t 38) (.c (.bool false)), none, false, []⟩,
   ⟨(some 40), .mv (.t 39), none, false, []⟩,
   ⟨(some 41), .mv (.t 0), (some (40, true)), false, []⟩,
   ⟨(some 42), .mv (.t 4), (some (40, true)), false, []⟩,
   ⟨(some 43), .bin .sc .add (.t 42) (.c (.int .i64 1)), (some (40, true)), false, []⟩,
   ⟨(some 44), .index (.t 41) (.t 43), (some (40, true)), false, []⟩,
   ⟨(some 45), .bin .sc .eql (.t 44) (.c (.int .u8 45)), (some (40, true)), false, []⟩,
   ⟨(some 46), .pick (.t 40) (.t 45) (.c (.bool false)), none, false, []⟩] none)
 (.cond (.t 46) (.seq (.block 2 (.loop (.seq (.seq (.ops [⟨(some 47), .mv (.t 4), none, false, []⟩,
   ⟨(some 48), .mv (.t 0), none, false, []⟩,
   ⟨(some 49), .len 0 (.t 48), none, false, []⟩,
   ⟨(some 50), .bin .sc .lss (.t 47) (.t 49), none, false, []⟩,
   ⟨(some 51), .mv (.t 50), none, false, []⟩,
   ⟨(some 52), .mv (.t 0), (some (51, true)), false, []⟩,
   ⟨(some 53), .mv (.t 4), (some (51, true)), false, []⟩,
   ⟨(some 54), .index (.t 52) (.t 53), (some (51, true)), false, []⟩,
   ⟨(some 55), .bin .sc .neq (.t 54) (.c (.int .u8 10)), (some (51, true)), false, []⟩,
   ⟨(some 56), .pick (.t 51) (.t 55) (.c (.bool false)), none, false, []⟩] none)
 (.cond (.t 56) .skip (.exit 2)))
 (.block 3 (.ops [⟨(some 57), .mv (.t 4), none, false, []⟩,
   ⟨(some 58), .bin .sc .add (.t 57) (.c (.int .i64 1)), none, false, []⟩,
   ⟨(some 4), .mv (.t 58), none, false, []⟩] none)))))
 (.exit 1)) .skip))
 (.seq (.ops [⟨(some 59), .mv (.t 4), none, false, []⟩,
   ⟨(some 60), .build [.int .i64 0, .int .i64 0, .str [], .int .i64 0] [(1, 1, (.t 59))], none, false, []⟩,
   ⟨(some 6), .alloc true [.int .i64 0, .int .i64 0, .str [], .int .i64 0], none, false, []⟩,
   ⟨none, .store 4 (.t 6) (.t 60), none, false, []⟩] none)
 (.seq (.ops [⟨(some 61), .mv (.t 4), none, false, []⟩,
   ⟨(some 7), .mv (.t 61), none, false, []⟩] none)
 (.seq (.block 4 (.seq (.ops [⟨(some 63), .mv (.t 5), none, false, []⟩,
   ⟨(some 64), .call (.c (.func 62 [] [])) [(.t 63)], none, false, []⟩,
   ⟨(some 65), .mv (.t 64), none, false, []⟩,
   ⟨(some 66), .mv (.t 5), (some (65, false)), false, []⟩,
   ⟨(some 67), .call (.c (.func 63 [] [])) [(.t 66)], (some (65, false)), false, []⟩,
   ⟨(some 68), .pick (.t 65) (.c (.bool true)) (.t 67), none, false, []⟩,
   ⟨(some 62), .mv (.t 68), none, false, []⟩] none)
 (.cond (.t 62) (.seq (.block 5 (.loop (.seq (.seq (.ops [⟨(some 69), .mv (.t 7), none, false, []⟩,
   ⟨(some 70), .mv (.t 0), none, false, []⟩,
   ⟨(some 71), .len 0 (.t 70), none, false, []⟩,
   ⟨(some 72), .bin .sc .lss (.t 69) (.t 71), none, false, []⟩,
   ⟨(some 73), .mv (.t 72), none, false, []⟩,
   ⟨(some 74), .mv (.t 0), (some (73, true)), false, []⟩,
   ⟨(some 75), .mv (.t 7), (some (73, true)), false, []⟩,
   ⟨(some 76), .index (.t 74) (.t 75), (some (73, true)), false, []⟩,
   ⟨(some 77), .call (.c (.func 64 [] [])) [(.t 76)], (some (73, true)), false, []⟩,
   ⟨(some 78), .pick (.t 73) (.t 77) (.c (.bool false)), none, false, []⟩] none)
 (.cond (.t 78) .skip (.exit 5)))
 (.block 6 (.ops [⟨(some 79), .mv (.t 7), none, false, []⟩,
   ⟨(some 80), .bin .sc .add (.t 79) (.c (.int .i64 1)), none, false, []⟩,
   ⟨(some 7), .mv (.t 80), none, false, []⟩] none)))))
 (.seq (.ops [⟨(some 81), .mv (.t 0), none, false, []⟩,
   ⟨(some 82), .mv (.t 4), none, false, []⟩,
   ⟨(some 83), .mv (.t 7), none, false, []⟩,
   ⟨(some 84), .sliceS (.t 81) (some (.t 82)) (some (.t 83)), none, false, []⟩,
   ⟨(some 85), .faddr 2 (.t 6), none, false, []⟩,
   ⟨none, .store 1 (.t 85) (.t 84), none, false, []⟩] none)
 (.block 7 (.seq (.ops [⟨(some 87), .faddr 2 (.t 6), none, false, []⟩,
   ⟨(some 88), .load false 1 (.t 87), none, false, []⟩,
   ⟨(some 89), .call (.c (.func 65 [] [])) [(.t 88)], none, false, []⟩,
   ⟨(some 86), .mv (.t 89), none, false, []⟩] none)
 (.cond (.t 86) (.ops [⟨(some 90), .faddr 0 (.t 6), none, false, []⟩,
   ⟨none, .store 1 (.t 90) (.c (.int .i64 4)), none, false, []⟩] none) (.seq (.ops [⟨(some 92), .faddr 2 (.t 6), none, false, []⟩,
   ⟨(some 93), .load false 1 (.t 92), none, false, []⟩,
   ⟨(some 94), .call (.c (.func 66 [] [])) [(.t 93)], none, false, []⟩,
   ⟨(some 91), .mv (.t 94), none, false, []⟩] none)
 (.cond (.t 91) (.ops [⟨(some 95), .faddr 0 (.t 6), none, false, []⟩,
   ⟨none, .store 1 (.t 95) (.c (.int .i64 1)), none, false, []⟩] none) (.seq (.ops [⟨(some 97), .faddr 2 (.t 6), none, false, []⟩,
   ⟨(some 98), .load false 1 (.t 97), none, false, []⟩,
   ⟨(some 99), .call (.c (.func 67 [] [])) [(.t 98)], none, false, []⟩,
   ⟨(some 96), .mv (.t 99), none, false, []⟩] none)
 (.cond (.t 96) (.ops [⟨(some 100), .faddr 0 (.t 6), none, false, []⟩,
   ⟨none, .store 1 (.t 100) (.c (.int .i64 2)), none, false, []⟩] none) .skip))))))))) (.seq (.ops [⟨(some 102), .mv (.t 5), none, false, []⟩,
   ⟨(some 103), .call (.c (.func 68 [] [])) [(.t 102)], none, false, []⟩,
   ⟨(some 101), .mv (.t 103), none, false, []⟩] none)
 (.cond (.t 101) (.seq (.block 8 (.loop (.seq (.seq (.ops [⟨(some 104), .mv (.t 7), none, false, []⟩,
   ⟨(some 105), .mv (.t 0), none, false, []⟩,
   ⟨(some 106), .len 0 (.t 105), none, false, []⟩,
   ⟨(some 107), .bin .sc .lss (.t 104) (.t 106), none, false, []⟩,
   ⟨(some 108), .mv (.t 107), none, false, []⟩,
   ⟨(some 109), .mv (.t 0), (some (108, true)), false, []⟩,
   ⟨(some 110), .mv (.t 7), (some (108, true)), false, []⟩,
   ⟨(some 111), .index (.t 109) (.t 110), (some (108, true)), false, []⟩,
   ⟨(some 112), .call (.c (.func 68 [] [])) [(.t 111)], (some (108, true)), false, []⟩,
   ⟨(some 113), .pick (.t 108) (.t 112) (.c (.bool false)), none, false, []⟩] none)
 (.cond (.t 113) .skip (.exit 8)))
 (.block 9 (.ops [⟨(some 114), .mv (.t 7), none, false, []⟩,
   ⟨(some 115), .bin .sc .add (.t 114) (.c (.int .i64 1)), none, false, []⟩,
   ⟨(some 7), .mv (.t 115), none, false, []⟩] none)))))
 (.seq (.ops [⟨(some 116), .mv (.t 0), none, false, []⟩,
   ⟨(some 117), .mv (.t 4), none, false, []⟩,
   ⟨(some 118), .mv (.t 7), none, false, []⟩,
   ⟨(some 119), .sliceS (.t 116) (some (.t 117)) (some (.t 118)), none, false, []⟩,
   ⟨(some 120), .call (.c (.func 69 [] [])) [(.t 119)], none, false, []⟩,
   ⟨(some 121), .faddr 3 (.t 6), none, false, []⟩,
   ⟨none, .store 1 (.t 121) (.t 120), none, false, []⟩] none)
 (.seq (.ops [⟨(some 122), .faddr 3 (.t 6), none, false, []⟩,
   ⟨(some 123), .load false 1 (.t 122), none, false, []⟩,
   ⟨(some 124), .bin .sc .geq (.t 123) (.c (.int .i64 0)), none, false, []⟩] none)
 (.cond (.t 124) (.ops [⟨(some 125), .faddr 0 (.t 6), none, false, []⟩,
   ⟨none, .store 1 (.t 125) (.c (.int .i64 3)), none, false, []⟩] none) .skip)))) (.seq (.ops [⟨(some 127), .mv (.t 5), none, false, []⟩,
   ⟨(some 128), .bin .sc .eql (.t 127) (.c (.int .u8 45)), none, false, []⟩,
   ⟨(some 129), .mv (.t 128), none, false, []⟩,
   ⟨(some 130), .mv (.t 4), (some (129, true)), false, []⟩,
   ⟨(some 131), .bin .sc .add (.t 130) (.c (.int .i64 1)), (some (129, true)), false, []⟩,
   ⟨(some 132), .mv (.t 0), (some (129, true)), false, []⟩,
   ⟨(some 133), .len 0 (.t 132), (some (129, true)), false, []⟩,
   ⟨(some 134), .bin .sc .lss (.t 131) (.t 133), (some (129, true)), false, []⟩,
   ⟨(some 135), .pick (.t 129) (.t 134) (.c (.bool false)), none, false, []⟩,
   ⟨(some 136), .mv (.t 135), none, false, []⟩,
   ⟨(some 137), .mv (.t 0), (some (136, true)), false, []⟩,
   ⟨(some 138), .mv (.t 4), (some (136, true)), false, []⟩,
   ⟨(some 139), .bin .sc .add (.t 138) (.c (.int .i64 1)), (some (136, true)), false, []⟩,
   ⟨(some 140), .index (.t 137) (.t 139), (some (136, true)), false, []⟩,
   ⟨(some 141), .bin .sc .eql (.t 140) (.c (.int .u8 62)), (some (136, true)), false, []⟩,
   ⟨(some 142), .pick (.t 136) (.t 141) (.c (.bool false)), none, false, []⟩,
   ⟨(some 126), .mv (.t 142), none, false, []⟩] none)
 (.cond (.t 126) (.seq (.ops [⟨(some 143), .mv (.t 4), none, false, []⟩,
   ⟨(some 144), .bin .sc .add (.t 143) (.c (.int .i64 2)), none, false, []⟩,
   ⟨(some 7), .mv (.t 144), none, false, []⟩] none)
 (.seq (.ops [⟨(some 145), .faddr 0 (.t 6), none, false, []⟩,
   ⟨none, .store 1 (.t 145) (.c (.int .i64 5)), none, false, []⟩] none)
 (.ops [⟨(some 146), .faddr 2 (.t 6), none, false, []⟩,
   ⟨none, .store 1 (.t 146) (.c (.str [45, 62])), none, false, []⟩] none))) (.seq (.ops [⟨(some 148), .mv (.t 5), none, false, []⟩,
   ⟨(some 149), .bin .sc .eql (.t 148) (.c (.int .u8 92)), none, false, []⟩,
   ⟨(some 150), .mv (.t 149), none, false, []⟩,
   ⟨(some 151), .mv (.t 5), (some (150, false)), false, []⟩,
   ⟨(some 152), .bin .sc .eql (.t 151) (.c (.int .u8 61)), (some (150, false)), false, []⟩,
   ⟨(some 153), .pick (.t 150) (.c (.bool true)) (.t 152), none, false, []⟩,
   ⟨(some 154), .mv (.t 153), none, false, []⟩,
   ⟨(some 155), .mv (.t 5), (some (154, false)), false, []⟩,
   ⟨(some 156), .bin .sc .eql (.t 155) (.c (.int .u8 59)), (some (154, false)), false, []⟩,
   ⟨(some 157), .pick (.t 154) (.c (.bool true)) (.t 156), none, false, []⟩,
   ⟨(some 158), .mv (.t 157), none, false, []⟩,
   ⟨(some 159), .mv (.t 5), (some (158, false)), false, []⟩,
   ⟨(some 160), .bin .sc .eql (.t 159) (.c (.int .u8 124)), (some (158, false)), false, []⟩,
   ⟨(some 161), .pick (.t 158) (.c (.bool true)) (.t 160), none, false, []⟩,
   ⟨(some 162), .mv (.t 161), none, false, []⟩,
   ⟨(some 163), .mv (.t 5), (some (162, false)), false, []⟩,
   ⟨(some 164), .bin .sc .eql (.t 163) (.c (.int .u8 40)), (some (162, false)), false, []⟩,
   ⟨(some 165), .pick (.t 162) (.c (.bool true)) (.t 164), none, false, []⟩,
   ⟨(some 166), .mv (.t 165), none, false, []⟩,
   ⟨(some 167), .mv (.t 5), (some (166, false)), false, []⟩,
   ⟨(some 168), .bin .sc .eql (.t 167) (.c (.int .u8 41)), (some (166, false)), false, []⟩,
   ⟨(some 169), .pick (.t 166) (.c (.bool true)) (.t 168), none, false, []⟩,
   ⟨(some 170), .mv (.t 169), none, false, []⟩,
   ⟨(some 171), .mv (.t 5), (some (170, false)), false, []⟩,
   ⟨(some 172), .bin .sc .eql (.t 171) (.c (.int .u8 44)), (some (170, false)), false, []⟩,
   ⟨(some 173), .pick (.t 170) (.c (.bool true)) (.t 172), none, false, []⟩,
   ⟨(some 174), .mv (.t 173), none, false, []⟩,
   ⟨(some 175), .mv (.t 5), (some (174, false)), false, []⟩,
   ⟨(some 176), .bin .sc .eql (.t 175) (.c (.int .u8 123)), (some (174, false)), false, []⟩,
   ⟨(some 177), .pick (.t 174) (.c (.bool true)) (.t 176), none, false, []⟩,
   ⟨(some 178), .mv (.t 177), none, false, []⟩,
   ⟨(some 179), .mv (.t 5), (some (178, false)), false, []⟩,
   ⟨(some 180), .bin .sc .eql (.t 179) (.c (.int .u8 125)), (some (178, false)), false, []⟩,
   ⟨(some 181), .pick (.t 178) (.c (.bool true)) (.t 180), none, false, []⟩,
   ⟨(some 147), .mv (.t 181), none, false, []⟩] none)
 (.cond (.t 147) (.seq (.ops [⟨(some 182), .mv (.t 4), none, false, []⟩,
   ⟨(some 183), .bin .sc .add (.t 182) (.c (.int .i64 1)), none, false, []⟩,
   ⟨(some 7), .mv (.t 183), none, false, []⟩] none)
 (.seq (.ops [⟨(some 184), .faddr 0 (.t 6), none, false, []⟩,
   ⟨none, .store 1 (.t 184) (.c (.int .i64 5)), none, false, []⟩] none)
 (.ops [⟨(some 185), .mv (.t 0), none, false, []⟩,
   ⟨(some 186), .mv (.t 4), none, false, []⟩,
   ⟨(some 187), .mv (.t 7), none, false, []⟩,
   ⟨(some 188), .sliceS (.t 185) (some (.t 186)) (some (.t 187)), none, false, []⟩,
   ⟨(some 189), .faddr 2 (.t 6), none, false, []⟩,
   ⟨none, .store 1 (.t 189) (.t 188), none, false, []⟩] none))) .skip)))))))))
 (.seq (.seq (.ops [⟨(some 190), .faddr 0 (.t 6), none, false, []⟩,
   ⟨(some 191), .load false 1 (.t 190), none, false, []⟩,
   ⟨(some 192), .bin .sc .eql (.t 191) (.c (.int .i64 0)), none, false, []⟩] none)
 (.cond (.t 192) (.seq (.ops [⟨(some 193), .mv (.t 4), none, false, []⟩,
   ⟨(some 194), .build [.pl [] 0 .nil, .int .i64 0, .int .i64 0] [(1, 1, (.c (.int .i64 3))), (2, 1, (.t 193))], none, false, []⟩,
   ⟨none, .store 3 (.t 2) (.t 194), none, false, []⟩] none)
 .ret) .skip))
 (.seq (.ops [⟨(some 195), .faddr 0 (.t 3), none, false, []⟩,
   ⟨(some 196), .load false 1 (.t 195), none, false, []⟩,
   ⟨(some 197), .load true 4 (.t 6), none, false, []⟩,
   ⟨(some 198), .bslice false 1 [.int .i64 0, .int .i64 0, .str [], .int .i64 0] [(0, 4, (.t 197))], none, false, []⟩,
   ⟨(some 199), .app false 4 40 (.t 196) (.t 198), none, false, []⟩,
   ⟨(some 200), .faddr 0 (.t 3), none, false, []⟩,
   ⟨none, .store 1 (.t 200) (.t 199), none, false, []⟩] none)
 (.ops [⟨(some 201), .mv (.t 7), none, false, []⟩,
   ⟨(some 4), .mv (.t 201), none, false, []⟩] none))))))))))))))
 (.seq (.ops [⟨(some 202), .load true 3 (.t 3), none, false, []⟩,
   ⟨none, .store 3 (.t 2) (.t 202), none, false, []⟩] none)
 .ret))))) }
/- (*warpref9.parser).peek -/
def f33 : AFunc :=
 { np := 3, ntmps := 58, results := [.tmp 6], frz := false, body :=
 (.seq (.ops [⟨(some 6), .mv (.c (.bool false)), none, false, []⟩] none)
 (.seq (.ops [⟨(some 7), .mv (.t 0), none, false, []⟩,
   ⟨(some 8), .nilck (.t 7), none, false, []⟩,
   ⟨(some 9), .faddr 3 (.t 8), none, false, []⟩,
   ⟨(some 10), .load false 1 (.t 9), none, false, []⟩,
   ⟨(some 11), .not (.t 10), none, false, []⟩,
   ⟨(some 12), .mv (.t 11), none, false, []⟩,
   ⟨(some 13), .mv (.t 0), (some (12, true)), false, []⟩,
   ⟨(some 14), .nilck (.t 13), (some (12, true)), false, []⟩,
   ⟨(some 15), .faddr 1 (.t 14), (some (12, true)), false, []⟩,
   ⟨(some 16), .load false 1 (.t 15), (some (12, true)), false, []⟩,
   ⟨(some 17), .mv (.t 0), (some (12, true)), false, []⟩,
   ⟨(some 18), .nilck (.t 17), (some (12, true)), false, []⟩,
   ⟨(some 19), .faddr 0 (.t 18), (some (12, true)), false, []⟩,
   ⟨(some 20), .load false 1 (.t 19), (some (12, true)), false, []⟩,
   ⟨(some 21), .len 1 (.t 20), (some (12, true)), false, []⟩,
   ⟨(some 22), .bin .sc .lss (.t 16) (.t 21), (some (12, true)), false, []⟩,
   ⟨(some 23), .pick (.t 12) (.t 22) (.c (.bool false)), none, false, []⟩,
   ⟨(some 24), .mv (.t 23), none, false, []⟩,
   ⟨(some 25), .mv (.t 0), (some (24, true)), false, []⟩,
   ⟨(some 26), .nilck (.t 25), (some (24, true)), false, []⟩,
   ⟨(some 27), .faddr 0 (.t 26), (some (24, true)), false, []⟩,
   ⟨(some 28), .load false 1 (.t 27), (some (24, true)), false, []⟩,
   ⟨(some 29), .mv (.t 0), (some (24, true)), false, []⟩,
   ⟨(some 30), .nilck (.t 29), (some (24, true)), false, []⟩,
   ⟨(some 31), .faddr 1 (.t 30), (some (24, true)), false, []⟩,
   ⟨(some 32), .load false 1 (.t 31), (some (24, true)), false, []⟩,
   ⟨(some 33), .iaddr none 4 (.t 28) (.t 32), (some (24, true)), false, []⟩,
   ⟨(some 34), .faddr 0 (.t 33), (some (24, true)), false, []⟩,
   ⟨(some 35), .load false 1 (.t 34), (some (24, true)), false, []⟩,
   ⟨(some 36), .mv (.t 1), (some (24, true)), false, []⟩,
   ⟨(some 37), .bin .sc .eql (.t 35) (.t 36), (some (24, true)), false, []⟩,
   ⟨(some 38), .pick (.t 24) (.t 37) (.c (.bool false)), none, false, []⟩,
   ⟨(some 39), .mv (.t 38), none, false, []⟩,
   ⟨(some 40), .mv (.t 2), (some (39, true)), false, []⟩,
   ⟨(some 41), .bin .sc .eql (.t 40) (.c (.str [])), (some (39, true)), false, []⟩,
   ⟨(some 42), .mv (.t 41), (some (39, true)), false, []⟩,
   ⟨(some 43), .mv (.t 0), (some (42, false)), false, []⟩,
   ⟨(some 44), .nilck (.t 43), (some (42, false)), false, []⟩,
   ⟨(some 45), .faddr 0 (.t 44), (some (42, false)), false, []⟩,
   ⟨(some 46), .load false 1 (.t 45), (some (42, false)), false, []⟩,
   ⟨(some 47), .mv (.t 0), (some (42, false)), false, []⟩,
   ⟨(some 48), .nilck (.t 47), (some (42, false)), false, []⟩,
   ⟨(some 49), .faddr 1 (.t 48), (some (42, false)), false, []⟩,
   ⟨(some 50), .load false 1 (.t 49), (some (42, false)), false, []⟩,
   ⟨(some 51), .iaddr none 4 (.t 46) (.t 50), (some (42, false)), false, []⟩,
   ⟨(some 52), .faddr 2 (.t 51), (some (42, false)), false, []⟩,
   ⟨(some 53), .load false 1 (.t 52), (some (42, false)), false, []⟩,
   ⟨(some 54), .mv (.t 2), (some (42, false)), false, []⟩,
   ⟨(some 55), .bin .sc .eql (.t 53) (.t 54), (some (42, false)), false, []⟩,
   ⟨(some 56), .pick (.t 42) (.c (.bool true)) (.t 55), (some (39, true)), false, []⟩,
   ⟨(some 57), .pick (.t 39) (.t 56) (.c (.bool false)), none, false, []⟩,
   ⟨(some 6), .mv (.t 57), none, false, []⟩] (some [[], [0], [0, 1], [0, 1, 2], [0, 1, 2, 3], [0, 1, 2, 3, 4], [0, 1, 2, 3, 4, 5], [0, 1, 2, 3, 4, 5, 6], [0, 1, 2, 3, 4, 5, 6, 7], [0, 1, 2, 3, 4, 5, 6, 7, 8], [0, 1, 2, 3, 4, 5], [0, 1, 2, 3, 4, 5, 10], [0, 1, 2, 3, 4, 5, 10, 11], [0, 1, 2, 3, 4, 5, 10, 11, 12], [0, 1, 2, 3, 4, 5, 10, 11, 12, 13], [0, 1, 2, 3, 4, 5, 6, 7, 8, 9, 10, 11, 12, 13, 14], [0, 1, 2, 3, 4, 5, 6, 7, 8, 9, 10, 11, 12, 13, 14, 15], [0, 1, 2, 3, 4, 5, 6, 7, 8, 9, 10, 11, 12, 13, 14, 15, 16], [0, 1, 2, 3, 4, 5, 6, 7, 8, 9, 10, 11, 12, 13, 14, 15, 16, 17], [0, 1, 2, 3, 4, 5, 6, 7, 8, 9, 10, 11, 12, 13, 14, 15, 16, 17, 18], [0, 1, 2, 3, 4, 5, 6, 7, 8, 9, 10, 11, 12, 13, 14, 15, 16, 17, 18, 19], [0, 1, 2, 3, 4, 5, 6, 7, 8, 9, 10, 11, 12, 13, 14, 15, 16, 17, 18, 19, 20], [0, 1, 2, 3, 4, 5, 6, 7, 8, 9, 10, 11, 12, 13, 14, 15, 16, 17], [0, 1, 2, 3, 4, 5, 6, 7, 8, 9, 10, 11, 12, 13, 14, 15, 16, 17, 22], [0, 1, 2, 3, 4, 5, 6, 7, 8, 9, 10, 11, 12, 13, 14, 15, 16, 17, 22, 23], [0, 1, 2, 3, 4, 5, 6, 7, 8, 9, 10, 11, 12, 13, 14, 15, 16, 17, 22, 23, 24], [0, 1, 2, 3, 4, 5, 6, 7, 8, 9, 10, 11, 12, 13, 14, 15, 16, 17, 18, 19, 20, 21, 22, 23, 24, 25], [0, 1, 2, 3, 4, 5, 6, 7, 8, 9, 10, 11, 12, 13, 14, 15, 16, 17, 18, 19, 20, 21, 22, 23, 24, 25, 26], [0, 1, 2, 3, 4, 5, 6, 7, 8, 9, 10, 11, 12, 13, 14, 15, 16, 17, 18, 19, 20, 21, 22, 23, 24, 25, 26, 27], [0, 1, 2, 3, 4, 5, 6, 7, 8, 9, 10, 11, 12, 13, 14, 15, 16, 17], [0, 1, 2, 3, 4, 5, 6, 7, 8, 9, 10, 11, 12, 13, 14, 15, 16, 17, 18, 19, 20, 21, 22, 23, 24, 25, 26, 27, 28, 29], [0, 1, 2, 3, 4, 5, 6, 7, 8, 9, 10, 11, 12, 13, 14, 15, 16, 17, 18, 19, 20, 21, 22, 23, 24, 25, 26, 27, 28, 29, 30], [0, 1, 2, 3, 4, 5, 6, 7, 8, 9, 10, 11, 12, 13, 14, 15, 16, 17, 18, 19, 20, 21, 22, 23, 24, 25, 26, 27, 28, 29, 30, 31], [0, 1, 2, 3, 4, 5, 6, 7, 8, 9, 10, 11, 12, 13, 14, 15, 16, 17, 18, 19, 20, 21, 22, 23, 24, 25, 26, 27, 28, 29, 30, 31, 32], [0, 1, 2, 3, 4, 5, 6, 7, 8, 9, 10, 11, 12, 13, 14, 15, 16, 17, 18, 19, 20, 21, 22, 23, 24, 25, 26, 27, 28, 29, 30, 31, 32, 33], [0, 1, 2, 3, 4, 5, 6, 7, 8, 9, 10, 11, 12, 13, 14, 15, 16, 17, 18, 19, 20, 21, 22, 23, 24, 25, 26, 27, 28, 29, 30, 31, 32, 33, 34], [0, 1, 2, 3, 4, 5, 6, 7, 8, 9, 10, 11, 12, 13, 14, 15, 16, 17, 18, 19, 20, 21, 22, 23, 24, 25, 26, 27, 28, 29, 30, 31, 32, 33, 34, 35], [0, 1, 2, 3, 4, 5, 6, 7, 8, 9, 10, 11, 12, 13, 14, 15, 16, 17, 18, 19, 20, 21, 22, 23, 24, 25, 26, 27, 28, 29, 30, 31, 32, 33, 34, 35, 36], [0, 1, 2, 3, 4, 5, 6, 7, 8, 9, 10, 11, 12, 13, 14, 15, 16, 17, 18, 19, 20, 21, 22, 23, 24, 25, 26, 27, 28, 29, 30, 31, 32, 33, 34, 35, 36, 37], [0, 1, 2, 3, 4, 5, 6, 7, 8, 9, 10, 11, 12, 13, 14, 15, 16, 17, 18, 19, 20, 21, 22, 23, 24, 25, 26, 27, 28, 29, 30, 31, 32, 33, 34, 35, 36, 37, 38], [0, 1, 2, 3, 4, 5, 6, 7, 8, 9, 10, 11, 12, 13, 14, 15, 16, 17, 18, 19, 20, 21, 22, 23, 24, 25, 26, 27, 28, 29, 30, 31, 32, 33, 34, 35], [0, 1, 2, 3, 4, 5, 6, 7, 8, 9, 10, 11, 12, 13, 14, 15, 16, 17, 18, 19, 20, 21, 22, 23, 24, 25, 26, 27, 28, 29, 30, 31, 32, 33, 34, 35, 40], [0, 1, 2, 3, 4, 5, 6, 7, 8, 9, 10, 11, 12, 13, 14, 15, 16, 17, 18, 19, 20, 21, 22, 23, 24, 25, 26, 27, 28, 29, 30, 31, 32, 33, 34, 35, 40, 41], [0, 1, 2, 3, 4, 5, 6, 7, 8, 9, 10, 11, 12, 13, 14, 15, 16, 17, 18, 19, 20, 21, 22, 23, 24, 25, 26, 27, 28, 29, 30, 31, 32, 33, 34, 35, 40, 41, 42], [0, 1, 2, 3, 4, 5, 6, 7, 8, 9, 10, 11, 12, 13, 14, 15, 16, 17, 18, 19, 20, 21, 22, 23, 24, 25, 26, 27, 28, 29, 30, 31, 32, 33, 34, 35, 36, 37, 38, 39, 40, 41, 42, 43], [0, 1, 2, 3, 4, 5, 6, 7, 8, 9, 10, 11, 12, 13, 14, 15, 16, 17, 18, 19, 20, 21, 22, 23, 24, 25, 26, 27, 28, 29, 30, 31, 32, 33, 34, 35, 36, 37, 38, 39, 40, 41, 42, 43, 44], [0, 1, 2, 3, 4, 5, 6, 7, 8, 9, 10, 11, 12, 13, 14, 15, 16, 17, 18, 19, 20, 21, 22, 23, 24, 25, 26, 27, 28, 29, 30, 31, 32, 33, 34, 35, 36, 37, 38, 39, 40, 41, 42, 43, 44, 45], [0, 1, 2, 3, 4, 5, 6, 7, 8, 9, 10, 11, 12, 13, 14, 15, 16, 17, 18, 19, 20, 21, 22, 23, 24, 25, 26, 27, 28, 29, 30, 31, 32, 33, 34, 35], [0, 1, 2, 3, 4, 5, 6, 7, 8, 9, 10, 11, 12, 13, 14, 15, 16, 17, 18, 19, 20, 21, 22, 23, 24, 25, 26, 27, 28, 29, 30, 31, 32, 33, 34, 35, 36, 37, 38, 39, 40, 41, 42, 43, 44, 45, 46, 47], [0, 1, 2, 3, 4, 5, 6, 7, 8, 9, 10, 11, 12, 13, 14, 15, 16, 17, 18, 19, 20, 21, 22, 23, 24, 25, 26, 27, 28, 29, 30, 31, 32, 33, 34, 35, 36, 37, 38, 39, 40, 41, 42, 43, 44, 45, 46, 47, 48], [0, 1, 2, 3, 4, 5, 6, 7, 8, 9, 10, 11, 12, 13, 14, 15, 16, 17, 18, 19, 20, 21, 22, 23, 24, 25, 26, 27, 28, 29, 30, 31, 32, 33, 34, 35, 36, 37, 38, 39, 40, 41, 42, 43, 44, 45, 46, 47, 48, 49], [0, 1, 2, 3, 4, 5, 6, 7, 8, 9, 10, 11, 12, 13, 14, 15, 16, 17, 18, 19, 20, 21, 22, 23, 24, 25, 26, 27, 28, 29, 30, 31, 32, 33, 34, 35, 36, 37, 38, 39, 40, 41, 42, 43, 44, 45, 46, 47, 48, 49, 50]]))
 .ret)) }
/- (*warpref9.parser).eat -/
def f34 : AFunc :=
 { np := 3, ntmps := 33, results := [.cell 6 4 true], frz := false, body :=
 (.seq (.ops [⟨(some 6), .alloc true [.int .i64 0, .int .i64 0, .str [], .int .i64 0], none, false, []⟩] none)
 (.seq (.seq (.ops [⟨(some 7), .mv (.t 0), none, false, []⟩,
   ⟨(some 8), .mv (.t 1), none, false, []⟩,
   ⟨(some 9), .mv (.t 2), none, false, []⟩,
   ⟨(some 10), .call (.c (.func 33 [] [])) [(.t 7), (.t 8), (.t 9)], none, false, []⟩,
   ⟨(some 11), .not (.t 10), none, false, []⟩] none)
 (.cond (.t 11) (.seq (.ops [⟨(some 12), .mv (.t 0), none, false, []⟩,
   ⟨(some 13), .call (.c (.func 70 [] [])) [(.t 12)], none, false, []⟩] none)
 (.seq (.ops [⟨(some 14), .build [.int .i64 0, .int .i64 0, .str [], .int .i64 0] [], none, false, []⟩,
   ⟨none, .store 4 (.t 6) (.t 14), none, false, []⟩] none)
 .ret)) .skip))
 (.seq (.ops [⟨(some 15), .mv (.t 0), none, false, []⟩,
   ⟨(some 16), .nilck (.t 15), none, false, []⟩,
   ⟨(some 17), .faddr 1 (.t 16), none, false, []⟩,
   ⟨(some 18), .load false 1 (.t 17), none, false, []⟩,
   ⟨(some 19), .bin .sc .add (.t 18) (.c (.int .i64 1)), none, false, []⟩,
   ⟨(some 20), .nilck (.t 15), none, false, []⟩,
   ⟨(some 21), .faddr 1 (.t 20), none, false, []⟩,
   ⟨none, .store 1 (.t 21) (.t 19), none, false, []⟩] none)
 (.seq (.ops [⟨(some 22), .mv (.t 0), none, false, []⟩,
   ⟨(some 23), .nilck (.t 22), none, false, []⟩,
   ⟨(some 24), .faddr 0 (.t 23), none, false, []⟩,
   ⟨(some 25), .load false 1 (.t 24), none, false, []⟩,
   ⟨(some 26), .mv (.t 0), none, false, []⟩,
   ⟨(some 27), .nilck (.t 26), none, false, []⟩,
   ⟨(some 28), .faddr 1 (.t 27), none, false, []⟩,
   ⟨(some 29), .load false 1 (.t 28), none, false, []⟩,
   ⟨(some 30), .bin .sc .sub (.t 29) (.c (.int .i64 1)), none, false, []⟩,
   ⟨(some 31), .iaddr none 4 (.t 25) (.t 30), none, false, []⟩,
   ⟨(some 32), .load true 4 (.t 31), none, false, []⟩,
   ⟨none, .store 4 (.t 6) (.t 32), none, false, []⟩] (some [[], [0], [0, 1], [0, 1, 2], [], [4], [4, 5], [4, 5, 6], [4, 5, 6, 7], [0, 1, 2, 3, 4, 5, 6, 7, 8], [0, 1, 2, 3, 4, 5, 6, 7, 8, 9], [0, 1, 2, 3, 4, 5, 6, 7, 8, 9, 10]]))
 .ret)))) }
/- (*warpref9.parser).names -/
def f35 : AFunc :=
 { np := 1, ntmps := 12, results := [.tmp 2], frz := false, body :=
 (.seq (.ops [⟨(some 2), .mv (.c (.pl [] 0 .nil)), none, false, []⟩] none)
 (.seq (.ops [⟨(some 3), .mv (.c (.pl [] 0 .nil)), none, false, []⟩] none)
 (.seq (.block 0 (.loop (.seq (.seq (.ops [⟨(some 4), .mv (.t 0), none, false, []⟩,
   ⟨(some 5), .call (.c (.func 33 [] [])) [(.t 4), (.c (.int .i64 1)), (.c (.str []))], none, false, []⟩] none)
 (.cond (.t 5) .skip (.exit 0)))
 (.block 1 (.ops [⟨(some 6), .mv (.t 3), none, false, []⟩,
   ⟨(some 7), .mv (.t 0), none, false, []⟩,
   ⟨(some 8), .call (.c (.func 34 [] [])) [(.t 7), (.c (.int .i64 1)), (.c (.str []))], none, false, []⟩,
   ⟨(some 9), .bslice false 1 [.int .i64 0, .int .i64 0, .str [], .int .i64 0] [(0, 4, (.t 8))], none, false, []⟩,
   ⟨(some 10), .app false 4 40 (.t 6) (.t 9), none, false, []⟩,
   ⟨(some 3), .mv (.t 10), none, false, []⟩] none)))))
 (.seq (.ops [⟨(some 11), .mv (.t 3), none, false, []⟩,
   ⟨(some 2), .mv (.t 11), none, false, []⟩] none)
 .ret)))) }
/- (*warpref9.parser).sign -/
def f36 : AFunc :=
 { np := 2, ntmps := 7, results := [], frz := false, body :=
 (.ops [⟨(some 4), .mv (.t 0), none, false, []⟩,
   ⟨(some 5), .mv (.t 1), none, false, []⟩,
   ⟨(some 6), .call (.c (.func 34 [] [])) [(.t 4), (.c (.int .i64 5)), (.t 5)], none, false, []⟩] none) }
/- (*warpref9.parser).con -/
def f37 : AFunc :=
 { np := 2, ntmps := 25, results := [.cell 4 3 true], frz := false, body :=
 (.seq (.ops [⟨(some 4), .alloc true [.str [], .int .i64 0, .pl [] 0 .nil], none, false, []⟩] none)
 (.seq (.ops [⟨(some 7), .mv (.t 0), none, false, []⟩,
   ⟨(some 8), .call (.c (.func 34 [] [])) [(.t 7), (.c (.int .i64 2)), (.c (.str []))], none, false, []⟩,
   ⟨(some 5), .alloc true [.int .i64 0, .int .i64 0, .str [], .int .i64 0], none, false, []⟩,
   ⟨none, .store 4 (.t 5) (.t 8), none, false, []⟩] none)
 (.seq (.ops [⟨(some 9), .faddr 2 (.t 5), none, false, []⟩,
   ⟨(some 10), .load false 1 (.t 9), none, false, []⟩,
   ⟨(some 11), .faddr 1 (.t 5), none, false, []⟩,
   ⟨(some 12), .load false 1 (.t 11), none, false, []⟩,
   ⟨(some 13), .build [.str [], .int .i64 0, .pl [] 0 .nil] [(0, 1, (.t 10)), (1, 1, (.t 12))], none, false, []⟩,
   ⟨(some 6), .alloc true [.str [], .int .i64 0, .pl [] 0 .nil], none, false, []⟩,
   ⟨none, .store 3 (.t 6) (.t 13), none, false, []⟩] none)
 (.seq (.block 0 (.loop (.seq (.seq (.ops [⟨(some 14), .mv (.t 0), none, false, []⟩,
   ⟨(some 15), .call (.c (.func 71 [] [])) [(.t 14)], none, false, []⟩] none)
 (.cond (.t 15) .skip (.exit 0)))
 (.block 1 (.ops [⟨(some 16), .faddr 2 (.t 6), none, false, []⟩,
   ⟨(some 17), .load false 1 (.t 16), none, true, []⟩,
   ⟨(some 18), .mv (.t 0), none, false, []⟩,
   ⟨(some 19), .mv (.t 1), none, false, []⟩,
   ⟨(some 20), .call (.c (.func 72 [] [])) [(.t 18), (.t 19)], none, false, []⟩,
   ⟨(some 21), .bslice false 1 [.int .i64 0, .int .i64 0, .str [], .pl [] 0 .nil] [(0, 4, (.t 20))], none, false, []⟩,
   ⟨(some 22), .app false 4 56 (.t 17) (.t 21), none, false, []⟩,
   ⟨(some 23), .faddr 2 (.t 6), none, false, []⟩,
   ⟨none, .store 1 (.t 23) (.t 22), none, false, []⟩] (some [[], [0], [], [], [2, 3], [2, 3, 4], [0, 1, 2, 3, 4, 5], [0, 1, 2, 3, 4, 5, 6], [0, 1, 2, 3, 4, 5, 6, 7]]))))))
 (.seq (.ops [⟨(some 24), .load true 3 (.t 6), none, false, []⟩,
   ⟨none, .store 3 (.t 4) (.t 24), none, false, []⟩] none)
 .ret))))) }
/- (*warpref9.parser).try -/
def f38 : AFunc :=
 { np := 2, ntmps := 16, results := [.tmp 4], frz := false, body :=
 (.seq (.ops [⟨(some 4), .mv (.c (.bool false)), none, false, []⟩] none)
 (.seq (.seq (.ops [⟨(some 5), .mv (.t 0), none, false, []⟩,
   ⟨(some 6), .mv (.t 1), none, false, []⟩,
   ⟨(some 7), .call (.c (.func 33 [] [])) [(.t 5), (.c (.int .i64 5)), (.t 6)], none, false, []⟩,
   ⟨(some 8), .not (.t 7), none, false, []⟩] none)
 (.cond (.t 8) (.seq (.ops [⟨(some 4), .mv (.c (.bool false)), none, false, []⟩] none)
 .ret) .skip))
 (.seq (.ops [⟨(some 9), .mv (.t 0), none, false, []⟩,
   ⟨(some 10), .nilck (.t 9), none, false, []⟩,
   ⟨(some 11), .faddr 1 (.t 10), none, false, []⟩,
   ⟨(some 12), .load false 1 (.t 11), none, false, []⟩,
   ⟨(some 13), .bin .sc .add (.t 12) (.c (.int .i64 1)), none, false, []⟩,
   ⟨(some 14), .nilck (.t 9), none, false, []⟩,
   ⟨(some 15), .faddr 1 (.t 14), none, false, []⟩,
   ⟨none, .store 1 (.t 15) (.t 13), none, false, []⟩] none)
 (.seq (.ops [⟨(some 4), .mv (.c (.bool true)), none, false, []⟩] none)
 .ret)))) }
/- warpref9.lams -/
def f39 : AFunc :=
 { np := 3, ntmps := 25, results := [.cell 6 6 true], frz := false, body :=
 (.seq (.ops [⟨(some 5), .box true (.t 2), none, false, []⟩,
   ⟨(some 6), .alloc true [.int .i64 0, .int .i64 0, .str [], .int .i64 0, .pl [] 0 .nil, .pl [] 0 .nil], none, false, []⟩] none)
 (.seq (.seq (.ops [⟨(some 8), .mv (.t 0), none, false, []⟩,
   ⟨(some 9), .len 1 (.t 8), none, false, []⟩,
   ⟨(some 10), .bin .sc .sub (.t 9) (.c (.int .i64 1)), none, false, []⟩,
   ⟨(some 7), .mv (.t 10), none, false, []⟩] none)
 (.block 0 (.loop (.seq (.seq (.ops [⟨(some 11), .mv (.t 7), none, false, []⟩,
   ⟨(some 12), .bin .sc .geq (.t 11) (.c (.int .i64 0)), none, false, []⟩] none)
 (.cond (.t 12) .skip (.exit 0)))
 (.seq (.block 1 (.ops [⟨(some 15), .mv (.t 1), none, false, []⟩,
   ⟨(some 16), .mv (.t 0), none, false, []⟩,
   ⟨(some 17), .mv (.t 7), none, false, []⟩,
   ⟨(some 18), .iaddr none 4 (.t 16) (.t 17), none, false, []⟩,
   ⟨(some 19), .faddr 2 (.t 18), none, false, []⟩,
   ⟨(some 20), .load false 1 (.t 19), none, false, []⟩,
   ⟨(some 21), .load true 6 (.t 5), none, false, []⟩,
   ⟨(some 22), .bslice false 1 [.int .i64 0, .int .i64 0, .str [], .int .i64 0, .pl [] 0 .nil, .pl [] 0 .nil] [(0, 6, (.t 21))], none, false, []⟩,
   ⟨(some 23), .build [.int .i64 0, .int .i64 0, .str [], .int .i64 0, .pl [] 0 .nil, .pl [] 0 .nil] [(0, 1, (.c (.int .i64 6))), (1, 1, (.t 15)), (2, 1, (.t 20)), (4, 1, (.t 22))], none, false, []⟩,
   ⟨none, .store 6 (.t 5) (.t 23), none, false, []⟩] (some [[], [], [], [1, 2], [1, 2, 3], [1, 2, 3, 4], [], [6], [0, 1, 2, 3, 4, 5, 6, 7], [0, 1, 2, 3, 4, 5, 6, 7, 8]])))
 (.ops [⟨(some 13), .mv (.t 7), none, false, []⟩,
   ⟨(some 14), .bin .sc .sub (.t 13) (.c (.int .i64 1)), none, false, []⟩,
   ⟨(some 7), .mv (.t 14), none, false, []⟩] none))))))
 (.seq (.ops [⟨(some 24), .load true 6 (.t 5), none, false, []⟩,
   ⟨none, .store 6 (.t 6) (.t 24), none, false, []⟩] none)
 .ret))) }
/- (*warpref9.parser).expr -/
def f40 : AFunc :=
 { np := 1, ntmps := 171, results := [.cell 2 6 true], frz := false, body :=
 (.seq (.ops [⟨(some 2), .alloc true [.int .i64 0, .int .i64 0, .str [], .int .i64 0, .pl [] 0 .nil, .pl [] 0 .nil], none, false, []⟩] none)
 (.seq (.seq (.ops [⟨(some 13), .mv (.t 0), none, false, []⟩,
   ⟨(some 14), .nilck (.t 13), none, false, []⟩,
   ⟨(some 15), .faddr 3 (.t 14), none, false, []⟩,
   ⟨(some 16), .load false 1 (.t 15), none, false, []⟩,
   ⟨(some 17), .mv (.t 16), none, false, []⟩,
   ⟨(some 18), .mv (.t 0), (some (17, false)), false, []⟩,
   ⟨(some 19), .nilck (.t 18), (some (17, false)), false, []⟩,
   ⟨(some 20), .faddr 1 (.t 19), (some (17, false)), false, []⟩,
   ⟨(some 21), .load false 1 (.t 20), (some (17, false)), false, []⟩,
   ⟨(some 22), .mv (.t 0), (some (17, false)), false, []⟩,
   ⟨(some 23), .nilck (.t 22), (some (17, false)), false, []⟩,
   ⟨(some 24), .faddr 0 (.t 23), (some (17, false)), false, []⟩,
   ⟨(some 25), .load false 1 (.t 24), (some (17, false)), false, []⟩,
   ⟨(some 26), .len 1 (.t 25), (some (17, false)), false, []⟩,
   ⟨(some 27), .bin .sc .geq (.t 21) (.t 26), (some (17, false)), false, []⟩,
   ⟨(some 28), .pick (.t 17) (.c (.bool true)) (.t 27), none, false, []⟩] (some [[], [0], [0, 1], [0, 1, 2], [0, 1, 2, 3], [0, 1, 2, 3, 4], [0, 1, 2, 3, 4, 5], [0, 1, 2, 3, 4, 5, 6], [0, 1, 2, 3, 4, 5, 6, 7], [0, 1, 2, 3, 4], [0, 1, 2, 3, 4, 9], [0, 1, 2, 3, 4, 9, 10], [0, 1, 2, 3, 4, 9, 10, 11], [0, 1, 2, 3, 4, 9, 10, 11, 12], [0, 1, 2, 3, 4, 5, 6, 7, 8, 9, 10, 11, 12, 13], [0, 1, 2, 3, 4, 5, 6, 7, 8, 9, 10, 11, 12, 13, 14]]))
 (.cond (.t 28) (.seq (.ops [⟨(some 29), .mv (.t 0), none, false, []⟩,
   ⟨(some 30), .call (.c (.func 70 [] [])) [(.t 29)], none, false, []⟩] none)
 (.seq (.ops [⟨(some 31), .build [.int .i64 0, .int .i64 0, .str [], .int .i64 0, .pl [] 0 .nil, .pl [] 0 .nil] [], none, false, []⟩,
   ⟨none, .store 6 (.t 2) (.t 31), none, false, []⟩] none)
 .ret)) .skip))
 (.seq (.ops [⟨(some 32), .mv (.t 0), none, false, []⟩,
   ⟨(some 33), .nilck (.t 32), none, false, []⟩,
   ⟨(some 34), .faddr 0 (.t 33), none, false, []⟩,
   ⟨(some 35), .load false 1 (.t 34), none, false, []⟩,
   ⟨(some 36), .mv (.t 0), none, false, []⟩,
   ⟨(some 37), .nilck (.t 36), none, false, []⟩,
   ⟨(some 38), .faddr 1 (.t 37), none, false, []⟩,
   ⟨(some 39), .load false 1 (.t 38), none, false, []⟩,
   ⟨(some 40), .iaddr none 4 (.t 35) (.t 39), none, false, []⟩,
   ⟨(some 41), .load true 4 (.t 40), none, false, []⟩,
   ⟨(some 3), .alloc true [.int .i64 0, .int .i64 0, .str [], .int .i64 0], none, false, []⟩,
   ⟨none, .store 4 (.t 3) (.t 41), none, false, []⟩] (some [[], [0], [0, 1], [0, 1, 2], [], [4], [4, 5], [4, 5, 6], [0, 1, 2, 3, 4, 5, 6, 7], [0, 1, 2, 3, 4, 5, 6, 7, 8], [], [0, 1, 2, 3, 4, 5, 6, 7, 8, 9, 10]]))
 (.seq (.block 0 (.seq (.ops [⟨(some 43), .mv (.t 0), none, false, []⟩,
   ⟨(some 44), .call (.c (.func 38 [] [])) [(.t 43), (.c (.str [92]))], none, false, []⟩,
   ⟨(some 42), .mv (.t 44), none, false, []⟩] none)
 (.cond (.t 42) (.seq (.ops [⟨(some 45), .mv (.t 0), none, false, []⟩,
   ⟨(some 46), .call (.c (.func 34 [] [])) [(.t 45), (.c (.int .i64 1)), (.c (.str []))], none, false, []⟩,
   ⟨(some 47), .bslice false 1 [.int .i64 0, .int .i64 0, .str [], .int .i64 0] [(0, 4, (.t 46))], none, false, []⟩,
   ⟨(some 4), .mv (.t 47), none, false, []⟩] none)
 (.seq (.ops [⟨(some 48), .mv (.t 4), none, false, []⟩,
   ⟨(some 49), .mv (.t 0), none, false, []⟩,
   ⟨(some 50), .call (.c (.func 35 [] [])) [(.t 49)], none, false, []⟩,
   ⟨(some 51), .app false 4 40 (.t 48) (.t 50), none, false, []⟩,
   ⟨(some 4), .mv (.t 51), none, false, []⟩] none)
 (.seq (.ops [⟨(some 52), .mv (.t 0), none, false, []⟩,
   ⟨(some 53), .call (.c (.func 36 [] [])) [(.t 52), (.c (.str [45, 62]))], none, false, []⟩] none)
 (.seq (.ops [⟨(some 54), .mv (.t 4), none, false, []⟩,
   ⟨(some 55), .faddr 1 (.t 3), none, false, []⟩,
   ⟨(some 56), .load false 1 (.t 55), none, true, []⟩,
   ⟨(some 57), .mv (.t 0), none, false, []⟩,
   ⟨(some 58), .call (.c (.func 40 [] [])) [(.t 57)], none, false, []⟩,
   ⟨(some 59), .call (.c (.func 39 [] [])) [(.t 54), (.t 56), (.t 58)], none, false, []⟩,
   ⟨none, .store 6 (.t 2) (.t 59), none, false, []⟩] (some [[], [], [1], [], [3], [0, 1, 2, 3, 4], [0, 1, 2, 3, 4, 5]]))
 .ret)))) (.seq (.ops [⟨(some 61), .mv (.t 0), none, false, []⟩,
   ⟨(some 62), .call (.c (.func 33 [] [])) [(.t 61), (.c (.int .i64 4)), (.c (.str [108, 101, 116]))], none, false, []⟩,
   ⟨(some 60), .mv (.t 62), none, false, []⟩] none)
 (.cond (.t 60) (.seq (.ops [⟨(some 63), .mv (.t 0), none, false, []⟩,
   ⟨(some 64), .nilck (.t 63), none, false, []⟩,
   ⟨(some 65), .faddr 1 (.t 64), none, false, []⟩,
   ⟨(some 66), .load false 1 (.t 65), none, false, []⟩,
   ⟨(some 67), .bin .sc .add (.t 66) (.c (.int .i64 1)), none, false, []⟩,
   ⟨(some 68), .nilck (.t 63), none, false, []⟩,
   ⟨(some 69), .faddr 1 (.t 68), none, false, []⟩,
   ⟨none, .store 1 (.t 69) (.t 67), none, false, []⟩] none)
 (.seq (.ops [⟨(some 70), .mv (.t 0), none, false, []⟩,
   ⟨(some 71), .call (.c (.func 34 [] [])) [(.t 70), (.c (.int .i64 1)), (.c (.str []))], none, false, []⟩,
   ⟨(some 5), .alloc true [.int .i64 0, .int .i64 0, .str [], .int .i64 0], none, false, []⟩,
   ⟨none, .store 4 (.t 5) (.t 71), none, false, []⟩] none)
 (.seq (.ops [⟨(some 72), .mv (.t 0), none, false, []⟩,
   ⟨(some 73), .call (.c (.func 35 [] [])) [(.t 72)], none, false, []⟩,
   ⟨(some 6), .mv (.t 73), none, false, []⟩] none)
 (.seq (.ops [⟨(some 74), .mv (.t 0), none, false, []⟩,
   ⟨(some 75), .call (.c (.func 36 [] [])) [(.t 74), (.c (.str [61]))], none, false, []⟩] none)
 (.seq (.ops [⟨(some 76), .mv (.t 6), none, false, []⟩,
   ⟨(some 77), .faddr 1 (.t 5), none, false, []⟩,
   ⟨(some 78), .load false 1 (.t 77), none, true, []⟩,
   ⟨(some 79), .mv (.t 0), none, false, []⟩,
   ⟨(some 80), .call (.c (.func 40 [] [])) [(.t 79)], none, false, []⟩,
   ⟨(some 81), .call (.c (.func 39 [] [])) [(.t 76), (.t 78), (.t 80)], none, false, []⟩,
   ⟨(some 7), .alloc true [.int .i64 0, .int .i64 0, .str [], .int .i64 0, .pl [] 0 .nil, .pl [] 0 .nil], none, false, []⟩,
   ⟨none, .store 6 (.t 7) (.t 81), none, false, []⟩] (some [[], [], [1], [], [3], [0, 1, 2, 3, 4], [], [0, 1, 2, 3, 4, 5, 6]]))
 (.seq (.ops [⟨(some 82), .mv (.t 0), none, false, []⟩,
   ⟨(some 83), .call (.c (.func 34 [] [])) [(.t 82), (.c (.int .i64 4)), (.c (.str [105, 110]))], none, false, []⟩] none)
 (.seq (.ops [⟨(some 84), .faddr 1 (.t 3), none, false, []⟩,
   ⟨(some 85), .load false 1 (.t 84), none, true, []⟩,
   ⟨(some 86), .faddr 2 (.t 5), none, false, []⟩,
   ⟨(some 87), .load false 1 (.t 86), none, true, []⟩,
   ⟨(some 88), .load true 6 (.t 7), none, true, []⟩,
   ⟨(some 89), .mv (.t 0), none, false, []⟩,
   ⟨(some 90), .call (.c (.func 40 [] [])) [(.t 89)], none, false, []⟩,
   ⟨(some 91), .bslice false 2 [.int .i64 0, .int .i64 0, .str [], .int .i64 0, .pl [] 0 .nil, .pl [] 0 .nil, .int .i64 0, .int .i64 0, .str [], .int .i64 0, .pl [] 0 .nil, .pl [] 0 .nil] [(0, 6, (.t 88)), (6, 6, (.t 90))], none, false, []⟩,
   ⟨(some 92), .build [.int .i64 0, .int .i64 0, .str [], .int .i64 0, .pl [] 0 .nil, .pl [] 0 .nil] [(0, 1, (.c (.int .i64 7))), (1, 1, (.t 85)), (2, 1, (.t 87)), (4, 1, (.t 91))], none, false, []⟩,
   ⟨none, .store 6 (.t 2) (.t 92), none, false, []⟩] (some [[], [0], [], [2], [], [], [5], [4, 5, 6], [0, 1, 2, 3, 4, 5, 6, 7], [0, 1, 2, 3, 4, 5, 6, 7, 8]]))
 .ret))))))) (.seq (.ops [⟨(some 94), .mv (.t 0), none, false, []⟩,
   ⟨(some 95), .call (.c (.func 33 [] [])) [(.t 94), (.c (.int .i64 4)), (.c (.str [105, 102]))], none, false, []⟩,
   ⟨(some 93), .mv (.t 95), none, false, []⟩] none)
 (.cond (.t 93) (.seq (.ops [⟨(some 96), .mv (.t 0), none, false, []⟩,
   ⟨(some 97), .nilck (.t 96), none, false, []⟩,
   ⟨(some 98), .faddr 1 (.t 97), none, false, []⟩,
   ⟨(some 99), .load false 1 (.t 98), none, false, []⟩,
   ⟨(some 100), .bin .sc .add (.t 99) (.c (.int .i64 1)), none, false, []⟩,
   ⟨(some 101), .nilck (.t 96), none, false, []⟩,
   ⟨(some 102), .faddr 1 (.t 101), none, false, []⟩,
   ⟨none, .store 1 (.t 102) (.t 100), none, false, []⟩] none)
 (.seq (.ops [⟨(some 103), .mv (.t 0), none, false, []⟩,
   ⟨(some 104), .call (.c (.func 40 [] [])) [(.t 103)], none, false, []⟩,
   ⟨(some 8), .alloc true [.int .i64 0, .int .i64 0, .str [], .int .i64 0, .pl [] 0 .nil, .pl [] 0 .nil], none, false, []⟩,
   ⟨none, .store 6 (.t 8) (.t 104), none, false, []⟩] none)
 (.seq (.ops [⟨(some 105), .mv (.t 0), none, false, []⟩,
   ⟨(some 106), .call (.c (.func 34 [] [])) [(.t 105), (.c (.int .i64 4)), (.c (.str [116, 104, 101, 110]))], none, false, []⟩] none)
 (.seq (.ops [⟨(some 107), .mv (.t 0), none, false, []⟩,
   ⟨(some 108), .call (.c (.func 40 [] [])) [(.t 107)], none, false, []⟩,
   ⟨(some 9), .alloc true [.int .i64 0, .int .i64 0, .str [], .int .i64 0, .pl [] 0 .nil, .pl [] 0 .nil], none, false, []⟩,
   ⟨none, .store 6 (.t 9) (.t 108), none, false, []⟩] none)
 (.seq (.ops [⟨(some 109), .mv (.t 0), none, false, []⟩,
   ⟨(some 110), .call (.c (.func 34 [] [])) [(.t 109), (.c (.int .i64 4)), (.c (.str [101, 108, 115, 101]))], none, false, []⟩] none)
 (.seq (.ops [⟨(some 111), .faddr 1 (.t 3), none, false, []⟩,
   ⟨(some 112), .load false 1 (.t 111), none, true, []⟩,
   ⟨(some 113), .load true 6 (.t 8), none, true, []⟩,
   ⟨(some 114), .load true 6 (.t 9), none, true, []⟩,
   ⟨(some 115), .mv (.t 0), none, false, []⟩,
   ⟨(some 116), .call (.c (.func 40 [] [])) [(.t 115)], none, false, []⟩,
   ⟨(some 117), .bslice false 3 [.int .i64 0, .int .i64 0, .str [], .int .i64 0, .pl [] 0 .nil, .pl [] 0 .nil, .int .i64 0, .int .i64 0, .str [], .int .i64 0, .pl [] 0 .nil, .pl [] 0 .nil, .int .i64 0, .int .i64 0, .str [], .int .i64 0, .pl [] 0 .nil, .pl [] 0 .nil] [(0, 6, (.t 113)), (6, 6, (.t 114)), (12, 6, (.t 116))], none, false, []⟩,
   ⟨(some 118), .build [.int .i64 0, .int .i64 0, .str [], .int .i64 0, .pl [] 0 .nil, .pl [] 0 .nil] [(0, 1, (.c (.int .i64 9))), (1, 1, (.t 112)), (4, 1, (.t 117))], none, false, []⟩,
   ⟨none, .store 6 (.t 2) (.t 118), none, false, []⟩] (some [[], [0], [], [], [], [4], [2, 3, 4, 5], [0, 1, 2, 3, 4, 5, 6], [0, 1, 2, 3, 4, 5, 6, 7]]))
 .ret)))))) (.seq (.ops [⟨(some 120), .mv (.t 0), none, false, []⟩,
   ⟨(some 121), .call (.c (.func 33 [] [])) [(.t 120), (.c (.int .i64 4)), (.c (.str [99, 97, 115, 101]))], none, false, []⟩,
   ⟨(some 119), .mv (.t 121), none, false, []⟩] none)
 (.cond (.t 119) (.seq (.ops [⟨(some 122), .mv (.t 0), none, false, []⟩,
   ⟨(some 123), .nilck (.t 122), none, false, []⟩,
   ⟨(some 124), .faddr 1 (.t 123), none, false, []⟩,
   ⟨(some 125), .load false 1 (.t 124), none, false, []⟩,
   ⟨(some 126), .bin .sc .add (.t 125) (.c (.int .i64 1)), none, false, []⟩,
   ⟨(some 127), .nilck (.t 122), none, false, []⟩,
   ⟨(some 128), .faddr 1 (.t 127), none, false, []⟩,
   ⟨none, .store 1 (.t 128) (.t 126), none, false, []⟩] none)
 (.seq (.ops [⟨(some 129), .faddr 1 (.t 3), none, false, []⟩,
   ⟨(some 130), .load false 1 (.t 129), none, true, []⟩,
   ⟨(some 131), .mv (.t 0), none, false, []⟩,
   ⟨(some 132), .call (.c (.func 40 [] [])) [(.t 131)], none, false, []⟩,
   ⟨(some 133), .bslice false 1 [.int .i64 0, .int .i64 0, .str [], .int .i64 0, .pl [] 0 .nil, .pl [] 0 .nil] [(0, 6, (.t 132))], none, false, []⟩,
   ⟨(some 134), .build [.int .i64 0, .int .i64 0, .str [], .int .i64 0, .pl [] 0 .nil, .pl [] 0 .nil] [(0, 1, (.c (.int .i64 10))), (1, 1, (.t 130)), (4, 1, (.t 133))], none, false, []⟩,
   ⟨(some 10), .alloc true [.int .i64 0, .int .i64 0, .str [], .int .i64 0, .pl [] 0 .nil, .pl [] 0 .nil], none, false, []⟩,
   ⟨none, .store 6 (.t 10) (.t 134), none, false, []⟩] (some [[], [0], [], [2], [2, 3], [0, 1, 2, 3, 4], [], [0, 1, 2, 3, 4, 5, 6]]))
 (.seq (.ops [⟨(some 135), .mv (.t 0), none, false, []⟩,
   ⟨(some 136), .call (.c (.func 34 [] [])) [(.t 135), (.c (.int .i64 4)), (.c (.str [111, 102]))], none, false, []⟩] none)
 (.seq (.ops [⟨(some 137), .mv (.t 0), none, false, []⟩,
   ⟨(some 138), .call (.c (.func 36 [] [])) [(.t 137), (.c (.str [123]))], none, false, []⟩] none)
 (.seq (.ops [⟨(some 139), .faddr 5 (.t 10), none, false, []⟩,
   ⟨(some 140), .load false 1 (.t 139), none, true, []⟩,
   ⟨(some 141), .mv (.t 0), none, false, []⟩,
   ⟨(some 142), .call (.c (.func 73 [] [])) [(.t 141)], none, false, []⟩,
   ⟨(some 143), .bslice false 1 [.int .i64 0, .str [], .pl [] 0 .nil, .int .i64 0, .int .i64 0, .str [], .int .i64 0, .pl [] 0 .nil, .pl [] 0 .nil] [(0, 9, (.t 142))], none, false, []⟩,
   ⟨(some 144), .app false 9 136 (.t 140) (.t 143), none, false, []⟩,
   ⟨(some 145), .faddr 5 (.t 10), none, false, []⟩,
   ⟨none, .store 1 (.t 145) (.t 144), none, false, []⟩] (some [[], [0], [], [2], [2, 3], [0, 1, 2, 3, 4], [0, 1, 2, 3, 4, 5], [0, 1, 2, 3, 4, 5, 6]]))
 (.seq (.block 1 (.loop (.seq (.seq (.ops [⟨(some 146), .mv (.t 0), none, false, []⟩,
   ⟨(some 147), .call (.c (.func 38 [] [])) [(.t 146), (.c (.str [59]))], none, false, []⟩] none)
 (.cond (.t 147) .skip (.exit 1)))
 (.block 2 (.ops [⟨(some 148), .faddr 5 (.t 10), none, false, []⟩,
   ⟨(some 149), .load false 1 (.t 148), none, true, []⟩,
   ⟨(some 150), .mv (.t 0), none, false, []⟩,
   ⟨(some 151), .call (.c (.func 73 [] [])) [(.t 150)], none, false, []⟩,
   ⟨(some 152), .bslice false 1 [.int .i64 0, .str [], .pl [] 0 .nil, .int .i64 0, .int .i64 0, .str [], .int .i64 0, .pl [] 0 .nil, .pl [] 0 .nil] [(0, 9, (.t 151))], none, false, []⟩,
   ⟨(some 153), .app false 9 136 (.t 149) (.t 152), none, false, []⟩,
   ⟨(some 154), .faddr 5 (.t 10), none, false, []⟩,
   ⟨none, .store 1 (.t 154) (.t 153), none, false, []⟩] (some [[], [0], [], [2], [2, 3], [0, 1, 2, 3, 4], [0, 1, 2, 3, 4, 5], [0, 1, 2, 3, 4, 5, 6]]))))))
 (.seq (.ops [⟨(some 155), .mv (.t 0), none, false, []⟩,
   ⟨(some 156), .call (.c (.func 36 [] [])) [(.t 155), (.c (.str [125]))], none, false, []⟩] none)
 (.seq (.ops [⟨(some 157), .load true 6 (.t 10), none, false, []⟩,
   ⟨none, .store 6 (.t 2) (.t 157), none, false, []⟩] none)
 .ret)))))))) .skip)))))))))
 (.seq (.ops [⟨(some 158), .mv (.t 0), none, false, []⟩,
   ⟨(some 159), .call (.c (.func 74 [] [])) [(.t 158)], none, false, []⟩,
   ⟨(some 11), .alloc true [.int .i64 0, .int .i64 0, .str [], .int .i64 0, .pl [] 0 .nil, .pl [] 0 .nil], none, false, []⟩,
   ⟨none, .store 6 (.t 11) (.t 159), none, false, []⟩] none)
 (.seq (.block 3 (.loop (.seq (.seq (.ops [⟨(some 160), .mv (.t 0), none, false, []⟩,
   ⟨(some 161), .call (.c (.func 75 [] [])) [(.t 160)], none, false, []⟩] none)
 (.cond (.t 161) .skip (.exit 3)))
 (.block 4 (.seq (.ops [⟨(some 162), .mv (.t 0), none, false, []⟩,
   ⟨(some 163), .call (.c (.func 74 [] [])) [(.t 162)], none, false, []⟩,
   ⟨(some 12), .alloc true [.int .i64 0, .int .i64 0, .str [], .int .i64 0, .pl [] 0 .nil, .pl [] 0 .nil], none, false, []⟩,
   ⟨none, .store 6 (.t 12) (.t 163), none, false, []⟩] none)
 (.ops [⟨(some 164), .faddr 1 (.t 11), none, false, []⟩,
   ⟨(some 165), .load false 1 (.t 164), none, false, []⟩,
   ⟨(some 166), .load true 6 (.t 11), none, false, []⟩,
   ⟨(some 167), .load true 6 (.t 12), none, false, []⟩,
   ⟨(some 168), .bslice false 2 [.int .i64 0, .int .i64 0, .str [], .int .i64 0, .pl [] 0 .nil, .pl [] 0 .nil, .int .i64 0, .int .i64 0, .str [], .int .i64 0, .pl [] 0 .nil, .pl [] 0 .nil] [(0, 6, (.t 166)), (6, 6, (.t 167))], none, false, []⟩,
   ⟨(some 169), .build [.int .i64 0, .int .i64 0, .str [], .int .i64 0, .pl [] 0 .nil, .pl [] 0 .nil] [(0, 1, (.c (.int .i64 5))), (1, 1, (.t 165)), (4, 1, (.t 168))], none, false, []⟩,
   ⟨none, .store 6 (.t 11) (.t 169), none, false, []⟩] none))))))
 (.seq (.ops [⟨(some 170), .load true 6 (.t 11), none, false, []⟩,
   ⟨none, .store 6 (.t 2) (.t 170), none, false, []⟩] none)
 .ret))))))) }
/- warpref9.tooDeep -/
def f41 : AFunc :=
 { np := 1, ntmps := 98, results := [.tmp 2], frz := false, body :=
 (.seq (.ops [⟨(some 1), .box true (.t 0), none, false, []⟩,
   ⟨(some 2), .mv (.c (.int .i64 0)), none, false, []⟩] none)
 (.seq (.ops [⟨(some 3), .mv (.c (.int .i64 (-1))), none, false, []⟩] none)
 (.seq (.seq (.ops [⟨(some 4), .mv (.c (.int .i64 0)), none, false, []⟩] none)
 (.block 0 (.loop (.seq (.seq (.ops [⟨(some 9), .mv (.t 4), none, false, []⟩,
   ⟨(some 10), .faddr 1 (.t 1), none, false, []⟩,
   ⟨(some 11), .load false 1 (.t 10), none, false, []⟩,
   ⟨(some 12), .len 1 (.t 11), none, false, []⟩,
   ⟨(some 13), .bin .sc .lss (.t 9) (.t 12), none, false, []⟩] none)
 (.cond (.t 13) .skip (.exit 0)))
 (.seq (.block 1 (.seq (.ops [⟨(some 16), .faddr 1 (.t 1), none, false, []⟩,
   ⟨(some 17), .load false 1 (.t 16), none, false, []⟩,
   ⟨(some 18), .mv (.t 4), none, false, []⟩,
   ⟨(some 19), .iaddr none 8 (.t 17) (.t 18), none, false, []⟩,
   ⟨(some 20), .faddr 2 (.t 19), none, false, []⟩,
   ⟨(some 21), .load true 6 (.t 20), none, false, []⟩,
   ⟨(some 22), .call (.c (.func 76 [] [])) [(.t 21)], none, false, []⟩,
   ⟨(some 23), .bin .sc .gtr (.t 22) (.c (.int .i64 60)), none, false, []⟩,
   ⟨(some 24), .mv (.t 23), none, false, []⟩,
   ⟨(some 25), .mv (.t 3), (some (24, true)), false, []⟩,
   ⟨(some 26), .bin .sc .lss (.t 25) (.c (.int .i64 0)), (some (24, true)), false, []⟩,
   ⟨(some 27), .mv (.t 26), (some (24, true)), false, []⟩,
   ⟨(some 28), .faddr 1 (.t 1), (some (27, false)), false, []⟩,
   ⟨(some 29), .load false 1 (.t 28), (some (27, false)), false, []⟩,
   ⟨(some 30), .mv (.t 4), (some (27, false)), false, []⟩,
   ⟨(some 31), .iaddr none 8 (.t 29) (.t 30), (some (27, false)), false, []⟩,
   ⟨(some 32), .faddr 1 (.t 31), (some (27, false)), false, []⟩,
   ⟨(some 33), .load false 1 (.t 32), (some (27, false)), false, []⟩,
   ⟨(some 34), .mv (.t 3), (some (27, false)), false, []⟩,
   ⟨(some 35), .bin .sc .lss (.t 33) (.t 34), (some (27, false)), false, []⟩,
   ⟨(some 36), .pick (.t 27) (.c (.bool true)) (.t 35), (some (24, true)), false, []⟩,
   ⟨(some 37), .pick (.t 24) (.t 36) (.c (.bool false)), none, false, []⟩] none)
 (.cond (.t 37) (.ops [⟨(some 38), .faddr 1 (.t 1), none, false, []⟩,
   ⟨(some 39), .load false 1 (.t 38), none, false, []⟩,
   ⟨(some 40), .mv (.t 4), none, false, []⟩,
   ⟨(some 41), .iaddr none 8 (.t 39) (.t 40), none, false, []⟩,
   ⟨(some 42), .faddr 1 (.t 41), none, false, []⟩,
   ⟨(some 43), .load false 1 (.t 42), none, false, []⟩,
   ⟨(some 3), .mv (.t 43), none, false, []⟩] none) .skip)))
 (.ops [⟨(some 14), .mv (.t 4), none, false, []⟩,
   ⟨(some 15), .bin .sc .add (.t 14) (.c (.int .i64 1)), none, false, []⟩,
   ⟨(some 4), .mv (.t 15), none, false, []⟩] none))))))
 (.seq (.seq (.ops [⟨(some 5), .mv (.c (.int .i64 0)), none, false, []⟩] none)
 (.block 2 (.loop (.seq (.seq (.ops [⟨(some 44), .mv (.t 5), none, false, []⟩,
   ⟨(some 45), .faddr 0 (.t 1), none, false, []⟩,
   ⟨(some 46), .load false 1 (.t 45), none, false, []⟩,
   ⟨(some 47), .len 1 (.t 46), none, false, []⟩,
   ⟨(some 48), .bin .sc .lss (.t 44) (.t 47), none, false, []⟩] none)
 (.cond (.t 48) .skip (.exit 2)))
 (.seq (.block 3 (.seq (.ops [⟨(some 6), .mv (.c (.int .i64 0)), none, false, []⟩] none)
 (.block 4 (.loop (.seq (.seq (.ops [⟨(some 51), .mv (.t 6), none, false, []⟩,
   ⟨(some 52), .faddr 0 (.t 1), none, false, []⟩,
   ⟨(some 53), .load false 1 (.t 52), none, false, []⟩,
   ⟨(some 54), .mv (.t 5), none, false, []⟩,
   ⟨(some 55), .iaddr none 4 (.t 53) (.t 54), none, false, []⟩,
   ⟨(some 56), .faddr 3 (.t 55), none, false, []⟩,
   ⟨(some 57), .load false 1 (.t 56), none, false, []⟩,
   ⟨(some 58), .len 1 (.t 57), none, false, []⟩,
   ⟨(some 59), .bin .sc .lss (.t 51) (.t 58), none, false, []⟩] none)
 (.cond (.t 59) .skip (.exit 4)))
 (.seq (.block 5 (.seq (.ops [⟨(some 62), .faddr 0 (.t 1), none, false, []⟩,
   ⟨(some 63), .load false 1 (.t 62), none, false, []⟩,
   ⟨(some 64), .mv (.t 5), none, false, []⟩,
   ⟨(some 65), .iaddr none 4 (.t 63) (.t 64), none, false, []⟩,
   ⟨(some 66), .faddr 3 (.t 65), none, false, []⟩,
   ⟨(some 67), .load false 1 (.t 66), none, false, []⟩,
   ⟨(some 68), .mv (.t 6), none, false, []⟩,
   ⟨(some 69), .iaddr none 3 (.t 67) (.t 68), none, false, []⟩,
   ⟨(some 70), .load true 3 (.t 69), none, false, []⟩,
   ⟨(some 7), .alloc true [.str [], .int .i64 0, .pl [] 0 .nil], none, false, []⟩,
   ⟨none, .store 3 (.t 7) (.t 70), none, false, []⟩] none)
 (.seq (.ops [⟨(some 8), .mv (.c (.int .i64 0)), none, false, []⟩] none)
 (.block 6 (.loop (.seq (.seq (.ops [⟨(some 71), .mv (.t 8), none, false, []⟩,
   ⟨(some 72), .faddr 2 (.t 7), none, false, []⟩,
   ⟨(some 73), .load false 1 (.t 72), none, false, []⟩,
   ⟨(some 74), .len 1 (.t 73), none, false, []⟩,
   ⟨(some 75), .bin .sc .lss (.t 71) (.t 74), none, false, []⟩] none)
 (.cond (.t 75) .skip (.exit 6)))
 (.seq (.block 7 (.seq (.ops [⟨(some 78), .faddr 2 (.t 7), none, false, []⟩,
   ⟨(some 79), .load false 1 (.t 78), none, false, []⟩,
   ⟨(some 80), .mv (.t 8), none, false, []⟩,
   ⟨(some 81), .iaddr none 4 (.t 79) (.t 80), none, false, []⟩,
   ⟨(some 82), .load true 4 (.t 81), none, false, []⟩,
   ⟨(some 83), .call (.c (.func 77 [] [])) [(.t 82)], none, false, []⟩,
   ⟨(some 84), .bin .sc .gtr (.t 83) (.c (.int .i64 60)), none, false, []⟩,
   ⟨(some 85), .mv (.t 84), none, false, []⟩,
   ⟨(some 86), .mv (.t 3), (some (85, true)), false, []⟩,
   ⟨(some 87), .bin .sc .lss (.t 86) (.c (.int .i64 0)), (some (85, true)), false, []⟩,
   ⟨(some 88), .mv (.t 87), (some (85, true)), false, []⟩,
   ⟨(some 89), .faddr 1 (.t 7), (some (88, false)), false, []⟩,
   ⟨(some 90), .load false 1 (.t 89), (some (88, false)), false, []⟩,
   ⟨(some 91), .mv (.t 3), (some (88, false)), false, []⟩,
   ⟨(some 92), .bin .sc .lss (.t 90) (.t 91), (some (88, false)), false, []⟩,
   ⟨(some 93), .pick (.t 88) (.c (.bool true)) (.t 92), (some (85, true)), false, []⟩,
   ⟨(some 94), .pick (.t 85) (.t 93) (.c (.bool false)), none, false, []⟩] none)
 (.cond (.t 94) (.ops [⟨(some 95), .faddr 1 (.t 7), none, false, []⟩,
   ⟨(some 96), .load false 1 (.t 95), none, false, []⟩,
   ⟨(some 3), .mv (.t 96), none, false, []⟩] none) .skip)))
 (.ops [⟨(some 76), .mv (.t 8), none, false, []⟩,
   ⟨(some 77), .bin .sc .add (.t 76) (.c (.int .i64 1)), none, false, []⟩,
   ⟨(some 8), .mv (.t 77), none, false, []⟩] none))))))))
 (.ops [⟨(some 60), .mv (.t 6), none, false, []⟩,
   ⟨(some 61), .bin .sc .add (.t 60) (.c (.int .i64 1)), none, false, []⟩,
   ⟨(some 6), .mv (.t 61), none, false, []⟩] none)))))))
 (.ops [⟨(some 49), .mv (.t 5), none, false, []⟩,
   ⟨(some 50), .bin .sc .add (.t 49) (.c (.int .i64 1)), none, false, []⟩,
   ⟨(some 5), .mv (.t 50), none, false, []⟩] none))))))
 (.seq (.ops [⟨(some 97), .mv (.t 3), none, false, []⟩,
   ⟨(some 2), .mv (.t 97), none, false, []⟩] none)
 .ret))))) }
/- warpref9.place -/
def f50 : AFunc :=
 { np := 2, ntmps := 19, results := [.tmp 4], frz := false, body :=
 (.seq (.ops [⟨(some 4), .mv (.c (.int .i64 0)), none, false, []⟩] none)
 (.seq (.seq (.ops [⟨(some 5), .mv (.c (.int .i64 0)), none, false, []⟩] none)
 (.block 0 (.loop (.seq (.seq (.ops [⟨(some 6), .mv (.t 5), none, false, []⟩,
   ⟨(some 7), .mv (.t 0), none, false, []⟩,
   ⟨(some 8), .len 1 (.t 7), none, false, []⟩,
   ⟨(some 9), .bin .sc .lss (.t 6) (.t 8), none, false, []⟩] none)
 (.cond (.t 9) .skip (.exit 0)))
 (.seq (.block 1 (.seq (.ops [⟨(some 12), .mv (.t 0), none, false, []⟩,
   ⟨(some 13), .mv (.t 5), none, false, []⟩,
   ⟨(some 14), .iaddr none 1 (.t 12) (.t 13), none, false, []⟩,
   ⟨(some 15), .load false 1 (.t 14), none, false, []⟩,
   ⟨(some 16), .mv (.t 1), none, false, []⟩,
   ⟨(some 17), .bin .sc .eql (.t 15) (.t 16), none, false, []⟩] none)
 (.cond (.t 17) (.seq (.ops [⟨(some 18), .mv (.t 5), none, false, []⟩,
   ⟨(some 4), .mv (.t 18), none, false, []⟩] none)
 .ret) .skip)))
 (.ops [⟨(some 10), .mv (.t 5), none, false, []⟩,
   ⟨(some 11), .bin .sc .add (.t 10) (.c (.int .i64 1)), none, false, []⟩,
   ⟨(some 5), .mv (.t 11), none, false, []⟩] none))))))
 (.seq (.ops [⟨(some 4), .mv (.c (.int .i64 (-1))), none, false, []⟩] none)
 .ret))) }
/- data.twice -/
def f51 : AFunc :=
 { np := 1, ntmps := 15, results := [.tmp 2], frz := false, body :=
 (.seq (.ops [⟨(some 2), .mv (.c (.bool false)), none, false, []⟩] none)
 (.seq (.ops [⟨(some 4), .mv (.t 0), none, false, []⟩,
   ⟨(some 5), .call (.c (.func 84 [] [])) [(.t 4)], none, false, []⟩,
   ⟨(some 0), .mv (.t 5), none, false, []⟩] none)
 (.seq (.ops [⟨(some 6), .mv (.t 0), none, false, []⟩,
   ⟨(some 7), .call (.c (.func 85 [] [])) [(.t 6)], none, false, []⟩] none)
 (.seq (.ops [⟨(some 8), .mv (.t 0), none, false, []⟩,
   ⟨(some 9), .len 1 (.t 8), none, false, []⟩,
   ⟨(some 3), .mv (.t 9), none, false, []⟩] none)
 (.seq (.ops [⟨(some 10), .mv (.t 0), none, false, []⟩,
   ⟨(some 11), .call (.c (.func 86 [] [])) [(.t 10)], none, false, []⟩,
   ⟨(some 12), .len 1 (.t 11), none, false, []⟩,
   ⟨(some 13), .mv (.t 3), none, false, []⟩,
   ⟨(some 14), .bin .sc .lss (.t 12) (.t 13), none, false, []⟩,
   ⟨(some 2), .mv (.t 14), none, false, []⟩] none)
 .ret))))) }
/- slices.ContainsFunc[[]api.Type,api.Type] -/
def f52 : AFunc :=
 { np := 2, ntmps := 9, results := [.tmp 4], frz := false, body :=
 (.seq (.ops [⟨(some 4), .mv (.c (.bool false)), none, false, []⟩] none)
 (.seq (.ops [⟨(some 5), .mv (.t 0), none, false, []⟩,
   ⟨(some 6), .mv (.t 1), none, false, []⟩,
   ⟨(some 7), .call (.c (.func 87 [] [])) [(.t 5), (.t 6)], none, false, []⟩,
   ⟨(some 8), .bin .sc .geq (.t 7) (.c (.int .i64 0)), none, false, []⟩,
   ⟨(some 4), .mv (.t 8), none, false, []⟩] none)
 .ret)) }
/- data.Check$1 -/
def f53 : AFunc :=
 { np := 3, ntmps := 12, results := [.tmp 4], frz := false, body :=
 (.seq (.ops [⟨(some 3), .box true (.t 0), none, false, []⟩,
   ⟨(some 4), .mv (.c (.bool false)), none, false, []⟩] none)
 (.seq (.ops [⟨(some 5), .load false 1 (.t 1), none, false, []⟩,
   ⟨(some 6), .load true 4 (.t 3), none, false, []⟩,
   ⟨(some 7), .faddr 2 (.t 2), none, false, []⟩,
   ⟨(some 8), .load false 1 (.t 7), none, false, []⟩,
   ⟨(some 9), .len 1 (.t 8), none, false, []⟩,
   ⟨(some 10), .call (.c (.func 54 [] [])) [(.t 5), (.t 6), (.t 9)], none, false, []⟩,
   ⟨(some 11), .not (.t 10), none, false, []⟩,
   ⟨(some 4), .mv (.t 11), none, false, []⟩] none)
 .ret)) }
/- data.right -/
def f54 : AFunc :=
 { np := 3, ntmps := 58, results := [.tmp 6], frz := false, body :=
 (.seq (.ops [⟨(some 3), .box false (.t 0), none, false, []⟩,
   ⟨(some 4), .box true (.t 1), none, false, []⟩,
   ⟨(some 5), .box false (.t 2), none, false, []⟩,
   ⟨(some 6), .mv (.c (.bool false)), none, false, []⟩] none)
 (.seq (.seq (.ops [⟨(some 8), .faddr 3 (.t 4), none, false, []⟩,
   ⟨(some 9), .load false 1 (.t 8), none, false, []⟩,
   ⟨(some 10), .mkfun 88 [] [(.t 3), (.t 5)], none, false, []⟩,
   ⟨(some 11), .call (.c (.func 52 [] [])) [(.t 9), (.t 10)], none, false, []⟩] none)
 (.cond (.t 11) (.seq (.ops [⟨(some 6), .mv (.c (.bool false)), none, false, []⟩] none)
 .ret) .skip))
 (.seq (.ops [⟨(some 12), .faddr 3 (.t 4), none, false, []⟩,
   ⟨(some 13), .load false 1 (.t 12), none, false, []⟩,
   ⟨(some 14), .len 1 (.t 13), none, false, []⟩,
   ⟨(some 7), .mv (.t 14), none, false, []⟩] none)
 (.seq (.block 0 (.seq (.ops [⟨(some 16), .faddr 0 (.t 4), none, false, []⟩,
   ⟨(some 17), .load false 1 (.t 16), none, false, []⟩,
   ⟨(some 18), .bin .sc .eql (.t 17) (.c (.int .i64 1)), none, false, []⟩,
   ⟨(some 15), .mv (.t 18), none, false, []⟩] none)
 (.cond (.t 15) (.seq (.ops [⟨(some 19), .mv (.t 7), none, false, []⟩,
   ⟨(some 20), .bin .sc .eql (.t 19) (.c (.int .i64 0)), none, false, []⟩,
   ⟨(some 21), .mv (.t 20), none, false, []⟩,
   ⟨(some 22), .faddr 1 (.t 4), (some (21, true)), false, []⟩,
   ⟨(some 23), .load false 1 (.t 22), (some (21, true)), false, []⟩,
   ⟨(some 24), .bin .sc .geq (.t 23) (.c (.int .i64 0)), (some (21, true)), false, []⟩,
   ⟨(some 25), .pick (.t 21) (.t 24) (.c (.bool false)), none, false, []⟩,
   ⟨(some 26), .mv (.t 25), none, false, []⟩,
   ⟨(some 27), .faddr 1 (.t 4), (some (26, true)), false, []⟩,
   ⟨(some 28), .load false 1 (.t 27), (some (26, true)), false, []⟩,
   ⟨(some 29), .load false 1 (.t 5), (some (26, true)), false, []⟩,
   ⟨(some 30), .bin .sc .lss (.t 28) (.t 29), (some (26, true)), false, []⟩,
   ⟨(some 31), .pick (.t 26) (.t 30) (.c (.bool false)), none, false, []⟩,
   ⟨(some 6), .mv (.t 31), none, false, []⟩] none)
 .ret) (.seq (.ops [⟨(some 33), .faddr 0 (.t 4), none, false, []⟩,
   ⟨(some 34), .load false 1 (.t 33), none, false, []⟩,
   ⟨(some 35), .bin .sc .neq (.t 34) (.c (.int .i64 2)), none, false, []⟩,
   ⟨(some 32), .mv (.t 35), none, false, []⟩] none)
 (.cond (.t 32) (.seq (.ops [⟨(some 6), .mv (.c (.bool false)), none, false, []⟩] none)
 .ret) (.seq (.ops [⟨(some 37), .faddr 2 (.t 4), none, false, []⟩,
   ⟨(some 38), .load false 1 (.t 37), none, false, []⟩,
   ⟨(some 39), .bin .sc .eql (.t 38) (.c (.str [45, 62])), none, false, []⟩,
   ⟨(some 36), .mv (.t 39), none, false, []⟩] none)
 (.cond (.t 36) (.seq (.ops [⟨(some 40), .mv (.t 7), none, false, []⟩,
   ⟨(some 41), .bin .sc .eql (.t 40) (.c (.int .i64 2)), none, false, []⟩,
   ⟨(some 6), .mv (.t 41), none, false, []⟩] none)
 .ret) (.seq (.ops [⟨(some 43), .faddr 2 (.t 4), none, false, []⟩,
   ⟨(some 44), .load false 1 (.t 43), none, false, []⟩,
   ⟨(some 45), .bin .sc .eql (.t 44) (.c (.str [44])), none, false, []⟩,
   ⟨(some 42), .mv (.t 45), none, false, []⟩] none)
 (.cond (.t 42) (.seq (.ops [⟨(some 46), .mv (.t 7), none, false, []⟩,
   ⟨(some 47), .bin .sc .geq (.t 46) (.c (.int .i64 2)), none, false, []⟩,
   ⟨(some 48), .mv (.t 47), none, false, []⟩,
   ⟨(some 49), .mv (.t 7), (some (48, true)), false, []⟩,
   ⟨(some 50), .bin .sc .leq (.t 49) (.c (.int .i64 8)), (some (48, true)), false, []⟩,
   ⟨(some 51), .pick (.t 48) (.t 50) (.c (.bool false)), none, false, []⟩,
   ⟨(some 6), .mv (.t 51), none, false, []⟩] none)
 .ret) .skip)))))))))
 (.seq (.ops [⟨(some 52), .mv (.t 7), none, false, []⟩,
   ⟨(some 53), .load false 1 (.t 3), none, false, []⟩,
   ⟨(some 54), .faddr 2 (.t 4), none, false, []⟩,
   ⟨(some 55), .load false 1 (.t 54), none, false, []⟩,
   ⟨(some 56), .call (.c (.func 89 [] [])) [(.t 53), (.t 55)], none, false, []⟩,
   ⟨(some 57), .bin .sc .eql (.t 52) (.t 56), none, false, []⟩,
   ⟨(some 6), .mv (.t 57), none, false, []⟩] none)
 .ret))))) }
/- warpref9.lower -/
def f62 : AFunc :=
 { np := 1, ntmps := 9, results := [.tmp 2], frz := false, body :=
 (.seq (.ops [⟨(some 2), .mv (.c (.bool false)), none, false, []⟩] none)
 (.seq (.ops [⟨(some 3), .mv (.t 0), none, false, []⟩,
   ⟨(some 4), .bin .sc .geq (.t 3) (.c (.int .u8 97)), none, false, []⟩,
   ⟨(some 5), .mv (.t 4), none, false, []⟩,
   ⟨(some 6), .mv (.t 0), (some (5, true)), false, []⟩,
   ⟨(some 7), .bin .sc .leq (.t 6) (.c (.int .u8 122)), (some (5, true)), false, []⟩,
   ⟨(some 8), .pick (.t 5) (.t 7) (.c (.bool false)), none, false, []⟩,
   ⟨(some 2), .mv (.t 8), none, false, []⟩] none)
 .ret)) }
/- warpref9.upper -/
def f63 : AFunc :=
 { np := 1, ntmps := 9, results := [.tmp 2], frz := false, body :=
 (.seq (.ops [⟨(some 2), .mv (.c (.bool false)), none, false, []⟩] none)
 (.seq (.ops [⟨(some 3), .mv (.t 0), none, false, []⟩,
   ⟨(some 4), .bin .sc .geq (.t 3) (.c (.int .u8 65)), none, false, []⟩,
   ⟨(some 5), .mv (.t 4), none, false, []⟩,
   ⟨(some 6), .mv (.t 0), (some (5, true)), false, []⟩,
   ⟨(some 7), .bin .sc .leq (.t 6) (.c (.int .u8 90)), (some (5, true)), false, []⟩,
   ⟨(some 8), .pick (.t 5) (.t 7) (.c (.bool false)), none, false, []⟩,
   ⟨(some 2), .mv (.t 8), none, false, []⟩] none)
 .ret)) }
/- warpref9.rest -/
def f64 : AFunc :=
 { np := 1, ntmps := 17, results := [.tmp 2], frz := false, body :=
 (.seq (.ops [⟨(some 2), .mv (.c (.bool false)), none, false, []⟩] none)
 (.seq (.ops [⟨(some 3), .mv (.t 0), none, false, []⟩,
   ⟨(some 4), .call (.c (.func 62 [] [])) [(.t 3)], none, false, []⟩,
   ⟨(some 5), .mv (.t 4), none, false, []⟩,
   ⟨(some 6), .mv (.t 0), (some (5, false)), false, []⟩,
   ⟨(some 7), .call (.c (.func 63 [] [])) [(.t 6)], (some (5, false)), false, []⟩,
   ⟨(some 8), .pick (.t 5) (.c (.bool true)) (.t 7), none, false, []⟩,
   ⟨(some 9), .mv (.t 8), none, false, []⟩,
   ⟨(some 10), .mv (.t 0), (some (9, false)), false, []⟩,
   ⟨(some 11), .call (.c (.func 68 [] [])) [(.t 10)], (some (9, false)), false, []⟩,
   ⟨(some 12), .pick (.t 9) (.c (.bool true)) (.t 11), none, false, []⟩,
   ⟨(some 13), .mv (.t 12), none, false, []⟩,
   ⟨(some 14), .mv (.t 0), (some (13, false)), false, []⟩,
   ⟨(some 15), .bin .sc .eql (.t 14) (.c (.int .u8 95)), (some (13, false)), false, []⟩,
   ⟨(some 16), .pick (.t 13) (.c (.bool true)) (.t 15), none, false, []⟩,
   ⟨(some 2), .mv (.t 16), none, false, []⟩] none)
 .ret)) }
/- warpref9.word -/
def f65 : AFunc :=
 { np := 1, ntmps := 15, results := [.tmp 2], frz := false, body :=
 (.seq (.ops [⟨(some 2), .mv (.c (.bool false)), none, false, []⟩] none)
 (.seq (.seq (.ops [⟨(some 3), .mv (.t 0), none, false, []⟩] none)
 (.block 0 (.seq (.seq (.ops [⟨(some 5), .bin .sc .eql (.t 3) (.c (.str [100, 97, 116, 97])), none, false, []⟩,
   ⟨(some 4), .mv (.t 5), none, false, []⟩] none)
 (.cond (.t 4) .skip (.seq (.ops [⟨(some 6), .bin .sc .eql (.t 3) (.c (.str [108, 101, 116])), none, false, []⟩,
   ⟨(some 4), .mv (.t 6), none, false, []⟩] none)
 (.cond (.t 4) .skip (.seq (.ops [⟨(some 7), .bin .sc .eql (.t 3) (.c (.str [105, 110])), none, false, []⟩,
   ⟨(some 4), .mv (.t 7), none, false, []⟩] none)
 (.cond (.t 4) .skip (.seq (.ops [⟨(some 8), .bin .sc .eql (.t 3) (.c (.str [105, 102])), none, false, []⟩,
   ⟨(some 4), .mv (.t 8), none, false, []⟩] none)
 (.cond (.t 4) .skip (.seq (.ops [⟨(some 9), .bin .sc .eql (.t 3) (.c (.str [116, 104, 101, 110])), none, false, []⟩,
   ⟨(some 4), .mv (.t 9), none, false, []⟩] none)
 (.cond (.t 4) .skip (.seq (.ops [⟨(some 10), .bin .sc .eql (.t 3) (.c (.str [101, 108, 115, 101])), none, false, []⟩,
   ⟨(some 4), .mv (.t 10), none, false, []⟩] none)
 (.cond (.t 4) .skip (.seq (.ops [⟨(some 11), .bin .sc .eql (.t 3) (.c (.str [99, 97, 115, 101])), none, false, []⟩,
   ⟨(some 4), .mv (.t 11), none, false, []⟩] none)
 (.cond (.t 4) .skip (.seq (.ops [⟨(some 12), .bin .sc .eql (.t 3) (.c (.str [111, 102])), none, false, []⟩,
   ⟨(some 4), .mv (.t 12), none, false, []⟩] none)
 (.cond (.t 4) .skip (.seq (.ops [⟨(some 13), .bin .sc .eql (.t 3) (.c (.str [116, 114, 117, 101])), none, false, []⟩,
   ⟨(some 4), .mv (.t 13), none, false, []⟩] none)
 (.cond (.t 4) .skip (.ops [⟨(some 14), .bin .sc .eql (.t 3) (.c (.str [102, 97, 108, 115, 101])), none, false, []⟩,
   ⟨(some 4), .mv (.t 14), none, false, []⟩] none)))))))))))))))))))
 (.cond (.t 4) (.seq (.ops [⟨(some 2), .mv (.c (.bool true)), none, false, []⟩] none)
 .ret) .skip))))
 (.seq (.ops [⟨(some 2), .mv (.c (.bool false)), none, false, []⟩] none)
 .ret))) }
/- warpref9.Name -/
def f66 : AFunc :=
 { np := 1, ntmps := 15, results := [.tmp 2], frz := false, body :=
 (.seq (.ops [⟨(some 2), .mv (.c (.bool false)), none, false, []⟩] none)
 (.seq (.ops [⟨(some 3), .mv (.t 0), none, false, []⟩,
   ⟨(some 4), .call (.c (.func 96 [] [])) [(.t 3)], none, false, []⟩,
   ⟨(some 5), .mv (.t 4), none, false, []⟩,
   ⟨(some 6), .mv (.t 0), (some (5, true)), false, []⟩,
   ⟨(some 7), .index (.t 6) (.c (.int .i64 0)), (some (5, true)), false, []⟩,
   ⟨(some 8), .call (.c (.func 62 [] [])) [(.t 7)], (some (5, true)), false, []⟩,
   ⟨(some 9), .pick (.t 5) (.t 8) (.c (.bool false)), none, false, []⟩,
   ⟨(some 10), .mv (.t 9), none, false, []⟩,
   ⟨(some 11), .mv (.t 0), (some (10, true)), false, []⟩,
   ⟨(some 12), .call (.c (.func 65 [] [])) [(.t 11)], (some (10, true)), false, []⟩,
   ⟨(some 13), .not (.t 12), (some (10, true)), false, []⟩,
   ⟨(some 14), .pick (.t 10) (.t 13) (.c (.bool false)), none, false, []⟩,
   ⟨(some 2), .mv (.t 14), none, false, []⟩] none)
 .ret)) }
/- warpref9.Con -/
def f67 : AFunc :=
 { np := 1, ntmps := 10, results := [.tmp 2], frz := false, body :=
 (.seq (.ops [⟨(some 2), .mv (.c (.bool false)), none, false, []⟩] none)
 (.seq (.ops [⟨(some 3), .mv (.t 0), none, false, []⟩,
   ⟨(some 4), .call (.c (.func 96 [] [])) [(.t 3)], none, false, []⟩,
   ⟨(some 5), .mv (.t 4), none, false, []⟩,
   ⟨(some 6), .mv (.t 0), (some (5, true)), false, []⟩,
   ⟨(some 7), .index (.t 6) (.c (.int .i64 0)), (some (5, true)), false, []⟩,
   ⟨(some 8), .call (.c (.func 63 [] [])) [(.t 7)], (some (5, true)), false, []⟩,
   ⟨(some 9), .pick (.t 5) (.t 8) (.c (.bool false)), none, false, []⟩,
   ⟨(some 2), .mv (.t 9), none, false, []⟩] none)
 .ret)) }
/- warpref9.digit -/
def f68 : AFunc :=
 { np := 1, ntmps := 9, results := [.tmp 2], frz := false, body :=
 (.seq (.ops [⟨(some 2), .mv (.c (.bool false)), none, false, []⟩] none)
 (.seq (.ops [⟨(some 3), .mv (.t 0), none, false, []⟩,
   ⟨(some 4), .bin .sc .geq (.t 3) (.c (.int .u8 48)), none, false, []⟩,
   ⟨(some 5), .mv (.t 4), none, false, []⟩,
   ⟨(some 6), .mv (.t 0), (some (5, true)), false, []⟩,
   ⟨(some 7), .bin .sc .leq (.t 6) (.c (.int .u8 57)), (some (5, true)), false, []⟩,
   ⟨(some 8), .pick (.t 5) (.t 7) (.c (.bool false)), none, false, []⟩,
   ⟨(some 2), .mv (.t 8), none, false, []⟩] none)
 .ret)) }
/- warpref9.number -/
def f69 : AFunc :=
 { np := 1, ntmps := 30, results := [.tmp 2], frz := false, body :=
 (.seq (.ops [⟨(some 2), .mv (.c (.int .i64 0)), none, false, []⟩] none)
 (.seq (.ops [⟨(some 3), .mv (.c (.int .i64 0)), none, false, []⟩] none)
 (.seq (.seq (.ops [⟨(some 4), .mv (.c (.int .i64 0)), none, false, []⟩] none)
 (.block 0 (.loop (.seq (.seq (.ops [⟨(some 5), .mv (.t 4), none, false, []⟩,
   ⟨(some 6), .mv (.t 0), none, false, []⟩,
   ⟨(some 7), .len 0 (.t 6), none, false, []⟩,
   ⟨(some 8), .bin .sc .lss (.t 5) (.t 7), none, false, []⟩] none)
 (.cond (.t 8) .skip (.exit 0)))
 (.seq (.block 1 (.seq (.ops [⟨(some 11), .mv (.t 3), none, false, []⟩,
   ⟨(some 12), .bin .sc .mul (.t 11) (.c (.int .i64 10)), none, false, []⟩,
   ⟨(some 13), .mv (.t 0), none, false, []⟩,
   ⟨(some 14), .mv (.t 4), none, false, []⟩,
   ⟨(some 15), .index (.t 13) (.t 14), none, false, []⟩,
   ⟨(some 16), .bin .sc .sub (.t 15) (.c (.int .u8 48)), none, false, []⟩,
   ⟨(some 17), .cint .i64 (.t 16), none, false, []⟩,
   ⟨(some 18), .bin .sc .add (.t 12) (.t 17), none, false, []⟩,
   ⟨(some 3), .mv (.t 18), none, false, []⟩] none)
 (.seq (.ops [⟨(some 19), .mv (.t 3), none, false, []⟩,
   ⟨(some 20), .bin .sc .gtr (.t 19) (.c (.int .i64 2147483647)), none, false, []⟩] none)
 (.cond (.t 20) (.seq (.ops [⟨(some 2), .mv (.c (.int .i64 (-1))), none, false, []⟩] none)
 .ret) .skip))))
 (.ops [⟨(some 9), .mv (.t 4), none, false, []⟩,
   ⟨(some 10), .bin .sc .add (.t 9) (.c (.int .i64 1)), none, false, []⟩,
   ⟨(some 4), .mv (.t 10), none, false, []⟩] none))))))
 (.seq (.seq (.ops [⟨(some 21), .mv (.t 0), none, false, []⟩,
   ⟨(some 22), .len 0 (.t 21), none, false, []⟩,
   ⟨(some 23), .bin .sc .gtr (.t 22) (.c (.int .i64 1)), none, false, []⟩,
   ⟨(some 24), .mv (.t 23), none, false, []⟩,
   ⟨(some 25), .mv (.t 0), (some (24, true)), false, []⟩,
   ⟨(some 26), .index (.t 25) (.c (.int .i64 0)), (some (24, true)), false, []⟩,
   ⟨(some 27), .bin .sc .eql (.t 26) (.c (.int .u8 48)), (some (24, true)), false, []⟩,
   ⟨(some 28), .pick (.t 24) (.t 27) (.c (.bool false)), none, false, []⟩] none)
 (.cond (.t 28) (.seq (.ops [⟨(some 2), .mv (.c (.int .i64 (-1))), none, false, []⟩] none)
 .ret) .skip))
 (.seq (.ops [⟨(some 29), .mv (.t 3), none, false, []⟩,
   ⟨(some 2), .mv (.t 29), none, false, []⟩] none)
 .ret))))) }
/- (*warpref9.parser).fail -/
def f70 : AFunc :=
 { np := 1, ntmps := 41, results := [], frz := false, body :=
 (.seq (.ops [⟨(some 2), .mv (.t 0), none, false, []⟩,
   ⟨(some 3), .nilck (.t 2), none, false, []⟩,
   ⟨(some 4), .faddr 3 (.t 3), none, false, []⟩,
   ⟨(some 5), .load false 1 (.t 4), none, false, []⟩,
   ⟨(some 6), .not (.t 5), none, false, []⟩] none)
 (.cond (.t 6) (.seq (.ops [⟨(some 7), .mv (.t 0), none, false, []⟩,
   ⟨(some 8), .nilck (.t 7), none, false, []⟩,
   ⟨(some 9), .faddr 3 (.t 8), none, false, []⟩,
   ⟨none, .store 1 (.t 9) (.c (.bool true)), none, false, []⟩] none)
 (.seq (.ops [⟨(some 10), .mv (.t 0), none, false, []⟩,
   ⟨(some 11), .mv (.t 0), none, false, []⟩,
   ⟨(some 12), .nilck (.t 11), none, false, []⟩,
   ⟨(some 13), .faddr 2 (.t 12), none, false, []⟩,
   ⟨(some 14), .load false 1 (.t 13), none, false, []⟩,
   ⟨(some 15), .nilck (.t 10), none, false, []⟩,
   ⟨(some 16), .faddr 4 (.t 15), none, false, []⟩,
   ⟨none, .store 1 (.t 16) (.t 14), none, false, []⟩] none)
 (.seq (.ops [⟨(some 17), .mv (.t 0), none, false, []⟩,
   ⟨(some 18), .nilck (.t 17), none, false, []⟩,
   ⟨(some 19), .faddr 1 (.t 18), none, false, []⟩,
   ⟨(some 20), .load false 1 (.t 19), none, false, []⟩,
   ⟨(some 21), .mv (.t 0), none, false, []⟩,
   ⟨(some 22), .nilck (.t 21), none, false, []⟩,
   ⟨(some 23), .faddr 0 (.t 22), none, false, []⟩,
   ⟨(some 24), .load false 1 (.t 23), none, false, []⟩,
   ⟨(some 25), .len 1 (.t 24), none, false, []⟩,
   ⟨(some 26), .bin .sc .lss (.t 20) (.t 25), none, false, []⟩] (some [[], [0], [0, 1], [0, 1, 2], [], [4], [4, 5], [4, 5, 6], [4, 5, 6, 7], [0, 1, 2, 3, 4, 5, 6, 7, 8]]))
 (.cond (.t 26) (.ops [⟨(some 27), .mv (.t 0), none, false, []⟩,
   ⟨(some 28), .mv (.t 0), none, false, []⟩,
   ⟨(some 29), .nilck (.t 28), none, false, []⟩,
   ⟨(some 30), .faddr 0 (.t 29), none, false, []⟩,
   ⟨(some 31), .load false 1 (.t 30), none, false, []⟩,
   ⟨(some 32), .mv (.t 0), none, false, []⟩,
   ⟨(some 33), .nilck (.t 32), none, false, []⟩,
   ⟨(some 34), .faddr 1 (.t 33), none, false, []⟩,
   ⟨(some 35), .load false 1 (.t 34), none, false, []⟩,
   ⟨(some 36), .iaddr none 4 (.t 31) (.t 35), none, false, []⟩,
   ⟨(some 37), .faddr 1 (.t 36), none, false, []⟩,
   ⟨(some 38), .load false 1 (.t 37), none, false, []⟩,
   ⟨(some 39), .nilck (.t 27), none, false, []⟩,
   ⟨(some 40), .faddr 4 (.t 39), none, false, []⟩,
   ⟨none, .store 1 (.t 40) (.t 38), none, false, []⟩] (some [[], [], [1], [1, 2], [1, 2, 3], [], [5], [5, 6], [5, 6, 7], [1, 2, 3, 4, 5, 6, 7, 8], [1, 2, 3, 4, 5, 6, 7, 8, 9], [1, 2, 3, 4, 5, 6, 7, 8, 9, 10], [0, 1, 2, 3, 4, 5, 6, 7, 8, 9, 10, 11], [0, 1, 2, 3, 4, 5, 6, 7, 8, 9, 10, 11, 12], [0, 1, 2, 3, 4, 5, 6, 7, 8, 9, 10, 11, 12, 13]])) .skip)))) .skip)) }
/- (*warpref9.parser).atypic -/
def f71 : AFunc :=
 { np := 1, ntmps := 13, results := [.tmp 2], frz := false, body :=
 (.seq (.ops [⟨(some 2), .mv (.c (.bool false)), none, false, []⟩] none)
 (.seq (.ops [⟨(some 3), .mv (.t 0), none, false, []⟩,
   ⟨(some 4), .call (.c (.func 33 [] [])) [(.t 3), (.c (.int .i64 1)), (.c (.str []))], none, false, []⟩,
   ⟨(some 5), .mv (.t 4), none, false, []⟩,
   ⟨(some 6), .mv (.t 0), (some (5, false)), false, []⟩,
   ⟨(some 7), .call (.c (.func 33 [] [])) [(.t 6), (.c (.int .i64 2)), (.c (.str []))], (some (5, false)), false, []⟩,
   ⟨(some 8), .pick (.t 5) (.c (.bool true)) (.t 7), none, false, []⟩,
   ⟨(some 9), .mv (.t 8), none, false, []⟩,
   ⟨(some 10), .mv (.t 0), (some (9, false)), false, []⟩,
   ⟨(some 11), .call (.c (.func 33 [] [])) [(.t 10), (.c (.int .i64 5)), (.c (.str [40]))], (some (9, false)), false, []⟩,
   ⟨(some 12), .pick (.t 9) (.c (.bool true)) (.t 11), none, false, []⟩,
   ⟨(some 2), .mv (.t 12), none, false, []⟩] none)
 .ret)) }
/- (*warpref9.parser).atype -/
def f72 : AFunc :=
 { np := 2, ntmps := 93, results := [.cell 4 4 true], frz := false, body :=
 (.seq (.ops [⟨(some 4), .alloc true [.int .i64 0, .int .i64 0, .str [], .pl [] 0 .nil], none, false, []⟩] none)
 (.seq (.seq (.ops [⟨(some 8), .mv (.t 0), none, false, []⟩,
   ⟨(some 9), .call (.c (.func 71 [] [])) [(.t 8)], none, false, []⟩,
   ⟨(some 10), .not (.t 9), none, false, []⟩] none)
 (.cond (.t 10) (.seq (.ops [⟨(some 11), .mv (.t 0), none, false, []⟩,
   ⟨(some 12), .call (.c (.func 70 [] [])) [(.t 11)], none, false, []⟩] none)
 (.seq (.ops [⟨(some 13), .build [.int .i64 0, .int .i64 0, .str [], .pl [] 0 .nil] [], none, false, []⟩,
   ⟨none, .store 4 (.t 4) (.t 13), none, false, []⟩] none)
 .ret)) .skip))
 (.seq (.ops [⟨(some 14), .mv (.t 0), none, false, []⟩,
   ⟨(some 15), .nilck (.t 14), none, false, []⟩,
   ⟨(some 16), .faddr 0 (.t 15), none, false, []⟩,
   ⟨(some 17), .load false 1 (.t 16), none, false, []⟩,
   ⟨(some 18), .mv (.t 0), none, false, []⟩,
   ⟨(some 19), .nilck (.t 18), none, false, []⟩,
   ⟨(some 20), .faddr 1 (.t 19), none, false, []⟩,
   ⟨(some 21), .load false 1 (.t 20), none, false, []⟩,
   ⟨(some 22), .iaddr none 4 (.t 17) (.t 21), none, false, []⟩,
   ⟨(some 23), .load true 4 (.t 22), none, false, []⟩,
   ⟨(some 5), .alloc true [.int .i64 0, .int .i64 0, .str [], .int .i64 0], none, false, []⟩,
   ⟨none, .store 4 (.t 5) (.t 23), none, false, []⟩] (some [[], [0], [0, 1], [0, 1, 2], [], [4], [4, 5], [4, 5, 6], [0, 1, 2, 3, 4, 5, 6, 7], [0, 1, 2, 3, 4, 5, 6, 7, 8], [], [0, 1, 2, 3, 4, 5, 6, 7, 8, 9, 10]]))
 (.seq (.ops [⟨(some 24), .mv (.t 0), none, false, []⟩,
   ⟨(some 25), .nilck (.t 24), none, false, []⟩,
   ⟨(some 26), .faddr 1 (.t 25), none, false, []⟩,
   ⟨(some 27), .load false 1 (.t 26), none, false, []⟩,
   ⟨(some 28), .bin .sc .add (.t 27) (.c (.int .i64 1)), none, false, []⟩,
   ⟨(some 29), .nilck (.t 24), none, false, []⟩,
   ⟨(some 30), .faddr 1 (.t 29), none, false, []⟩,
   ⟨none, .store 1 (.t 30) (.t 28), none, false, []⟩] none)
 (.seq (.seq (.ops [⟨(some 31), .faddr 0 (.t 5), none, false, []⟩,
   ⟨(some 32), .load false 1 (.t 31), none, false, []⟩] none)
 (.block 0 (.seq (.ops [⟨(some 34), .bin .sc .eql (.t 32) (.c (.int .i64 1)), none, false, []⟩,
   ⟨(some 33), .mv (.t 34), none, false, []⟩] none)
 (.cond (.t 33) (.seq (.seq (.ops [⟨(some 35), .mv (.t 1), none, false, []⟩,
   ⟨(some 36), .faddr 2 (.t 5), none, false, []⟩,
   ⟨(some 37), .load false 1 (.t 36), none, false, []⟩,
   ⟨(some 38), .call (.c (.func 50 [] [])) [(.t 35), (.t 37)], none, false, []⟩,
   ⟨(some 6), .mv (.t 38), none, false, []⟩] none)
 (.seq (.ops [⟨(some 39), .mv (.t 6), none, false, []⟩,
   ⟨(some 40), .bin .sc .geq (.t 39) (.c (.int .i64 0)), none, false, []⟩] none)
 (.cond (.t 40) (.seq (.ops [⟨(some 41), .mv (.t 6), none, false, []⟩,
   ⟨(some 42), .build [.int .i64 0, .int .i64 0, .str [], .pl [] 0 .nil] [(0, 1, (.c (.int .i64 1))), (1, 1, (.t 41))], none, false, []⟩,
   ⟨none, .store 4 (.t 4) (.t 42), none, false, []⟩] none)
 .ret) .skip)))
 (.seq (.ops [⟨(some 43), .faddr 2 (.t 5), none, false, []⟩,
   ⟨(some 44), .load false 1 (.t 43), none, false, []⟩,
   ⟨(some 45), .build [.int .i64 0, .int .i64 0, .str [], .pl [] 0 .nil] [(0, 1, (.c (.int .i64 1))), (1, 1, (.c (.int .i64 (-1)))), (2, 1, (.t 44))], none, false, []⟩,
   ⟨none, .store 4 (.t 4) (.t 45), none, false, []⟩] none)
 .ret)) (.seq (.ops [⟨(some 47), .bin .sc .eql (.t 32) (.c (.int .i64 2)), none, false, []⟩,
   ⟨(some 46), .mv (.t 47), none, false, []⟩] none)
 (.cond (.t 46) (.seq (.ops [⟨(some 48), .faddr 2 (.t 5), none, false, []⟩,
   ⟨(some 49), .load false 1 (.t 48), none, false, []⟩,
   ⟨(some 50), .build [.int .i64 0, .int .i64 0, .str [], .pl [] 0 .nil] [(0, 1, (.c (.int .i64 2))), (2, 1, (.t 49))], none, false, []⟩,
   ⟨none, .store 4 (.t 4) (.t 50), none, false, []⟩] none)
 .ret) .skip))))))
 (.seq (.ops [⟨(some 51), .mv (.t 0), none, false, []⟩,
   ⟨(some 52), .mv (.t 1), none, false, []⟩,
   ⟨(some 53), .call (.c (.func 97 [] [])) [(.t 51), (.t 52)], none, false, []⟩,
   ⟨(some 54), .bslice false 1 [.int .i64 0, .int .i64 0, .str [], .pl [] 0 .nil] [(0, 4, (.t 53))], none, false, []⟩,
   ⟨(some 7), .mv (.t 54), none, false, []⟩] none)
 (.seq (.block 1 (.loop (.seq (.seq (.ops [⟨(some 55), .mv (.t 0), none, false, []⟩,
   ⟨(some 56), .nilck (.t 55), none, false, []⟩,
   ⟨(some 57), .faddr 3 (.t 56), none, false, []⟩,
   ⟨(some 58), .load false 1 (.t 57), none, false, []⟩,
   ⟨(some 59), .not (.t 58), none, false, []⟩,
   ⟨(some 60), .mv (.t 59), none, false, []⟩,
   ⟨(some 61), .mv (.t 0), (some (60, true)), false, []⟩,
   ⟨(some 62), .call (.c (.func 33 [] [])) [(.t 61), (.c (.int .i64 5)), (.c (.str [44]))], (some (60, true)), false, []⟩,
   ⟨(some 63), .pick (.t 60) (.t 62) (.c (.bool false)), none, false, []⟩] none)
 (.cond (.t 63) .skip (.exit 1)))
 (.block 2 (.seq (.seq (.ops [⟨(some 64), .mv (.t 7), none, false, []⟩,
   ⟨(some 65), .len 1 (.t 64), none, false, []⟩,
   ⟨(some 66), .bin .sc .eql (.t 65) (.c (.int .i64 8)), none, false, []⟩] none)
 (.cond (.t 66) (.seq (.ops [⟨(some 67), .mv (.t 0), none, false, []⟩,
   ⟨(some 68), .call (.c (.func 70 [] [])) [(.t 67)], none, false, []⟩] none)
 (.seq (.ops [⟨(some 69), .build [.int .i64 0, .int .i64 0, .str [], .pl [] 0 .nil] [], none, false, []⟩,
   ⟨none, .store 4 (.t 4) (.t 69), none, false, []⟩] none)
 .ret)) .skip))
 (.seq (.ops [⟨(some 70), .mv (.t 0), none, false, []⟩,
   ⟨(some 71), .nilck (.t 70), none, false, []⟩,
   ⟨(some 72), .faddr 1 (.t 71), none, false, []⟩,
   ⟨(some 73), .load false 1 (.t 72), none, false, []⟩,
   ⟨(some 74), .bin .sc .add (.t 73) (.c (.int .i64 1)), none, false, []⟩,
   ⟨(some 75), .nilck (.t 70), none, false, []⟩,
   ⟨(some 76), .faddr 1 (.t 75), none, false, []⟩,
   ⟨none, .store 1 (.t 76) (.t 74), none, false, []⟩] none)
 (.ops [⟨(some 77), .mv (.t 7), none, false, []⟩,
   ⟨(some 78), .mv (.t 0), none, false, []⟩,
   ⟨(some 79), .mv (.t 1), none, false, []⟩,
   ⟨(some 80), .call (.c (.func 97 [] [])) [(.t 78), (.t 79)], none, false, []⟩,
   ⟨(some 81), .bslice false 1 [.int .i64 0, .int .i64 0, .str [], .pl [] 0 .nil] [(0, 4, (.t 80))], none, false, []⟩,
   ⟨(some 82), .app false 4 56 (.t 77) (.t 81), none, false, []⟩,
   ⟨(some 7), .mv (.t 82), none, false, []⟩] none)))))))
 (.seq (.ops [⟨(some 83), .mv (.t 0), none, false, []⟩,
   ⟨(some 84), .call (.c (.func 36 [] [])) [(.t 83), (.c (.str [41]))], none, false, []⟩] none)
 (.seq (.seq (.ops [⟨(some 85), .mv (.t 7), none, false, []⟩,
   ⟨(some 86), .len 1 (.t 85), none, false, []⟩,
   ⟨(some 87), .bin .sc .eql (.t 86) (.c (.int .i64 1)), none, false, []⟩] none)
 (.cond (.t 87) (.seq (.ops [⟨(some 88), .mv (.t 7), none, false, []⟩,
   ⟨(some 89), .iaddr none 4 (.t 88) (.c (.int .i64 0)), none, false, []⟩,
   ⟨(some 90), .load true 4 (.t 89), none, false, []⟩,
   ⟨none, .store 4 (.t 4) (.t 90), none, false, []⟩] none)
 .ret) .skip))
 (.seq (.ops [⟨(some 91), .mv (.t 7), none, false, []⟩,
   ⟨(some 92), .build [.int .i64 0, .int .i64 0, .str [], .pl [] 0 .nil] [(0, 1, (.c (.int .i64 2))), (2, 1, (.c (.str [44]))), (3, 1, (.t 91))], none, false, []⟩,
   ⟨none, .store 4 (.t 4) (.t 92), none, false, []⟩] none)
 .ret)))))))))) }
/- (*warpref9.parser).alt -/
def f73 : AFunc :=
 { np := 1, ntmps := 37, results := [.cell 2 9 true], frz := false, body :=
 (.seq (.ops [⟨(some 2), .alloc true [.int .i64 0, .str [], .pl [] 0 .nil, .int .i64 0, .int .i64 0, .str [], .int .i64 0, .pl [] 0 .nil, .pl [] 0 .nil], none, false, []⟩] none)
 (.seq (.ops [⟨(some 7), .mv (.t 0), none, false, []⟩,
   ⟨(some 8), .call (.c (.func 34 [] [])) [(.t 7), (.c (.int .i64 2)), (.c (.str []))], none, false, []⟩,
   ⟨(some 3), .alloc true [.int .i64 0, .int .i64 0, .str [], .int .i64 0], none, false, []⟩,
   ⟨none, .store 4 (.t 3) (.t 8), none, false, []⟩] none)
 (.seq (.ops [⟨(some 9), .mv (.t 0), none, false, []⟩,
   ⟨(some 10), .call (.c (.func 35 [] [])) [(.t 9)], none, false, []⟩,
   ⟨(some 4), .mv (.t 10), none, false, []⟩] none)
 (.seq (.ops [⟨(some 11), .mv (.t 0), none, false, []⟩,
   ⟨(some 12), .call (.c (.func 36 [] [])) [(.t 11), (.c (.str [45, 62]))], none, false, []⟩] none)
 (.seq (.ops [⟨(some 13), .faddr 1 (.t 3), none, false, []⟩,
   ⟨(some 14), .load false 1 (.t 13), none, true, []⟩,
   ⟨(some 15), .faddr 2 (.t 3), none, false, []⟩,
   ⟨(some 16), .load false 1 (.t 15), none, true, []⟩,
   ⟨(some 17), .mv (.t 0), none, false, []⟩,
   ⟨(some 18), .call (.c (.func 40 [] [])) [(.t 17)], none, false, []⟩,
   ⟨(some 19), .build [.int .i64 0, .str [], .pl [] 0 .nil, .int .i64 0, .int .i64 0, .str [], .int .i64 0, .pl [] 0 .nil, .pl [] 0 .nil] [(0, 1, (.t 14)), (1, 1, (.t 16)), (3, 6, (.t 18))], none, false, []⟩,
   ⟨(some 5), .alloc true [.int .i64 0, .str [], .pl [] 0 .nil, .int .i64 0, .int .i64 0, .str [], .int .i64 0, .pl [] 0 .nil, .pl [] 0 .nil], none, false, []⟩,
   ⟨none, .store 9 (.t 5) (.t 19), none, false, []⟩] (some [[], [0], [], [2], [], [4], [0, 1, 2, 3, 4, 5], [], [0, 1, 2, 3, 4, 5, 6, 7]]))
 (.seq (.seq (.ops [⟨(some 6), .mv (.c (.int .i64 0)), none, false, []⟩] none)
 (.block 0 (.loop (.seq (.seq (.ops [⟨(some 20), .mv (.t 6), none, false, []⟩,
   ⟨(some 21), .mv (.t 4), none, false, []⟩,
   ⟨(some 22), .len 1 (.t 21), none, false, []⟩,
   ⟨(some 23), .bin .sc .lss (.t 20) (.t 22), none, false, []⟩] none)
 (.cond (.t 23) .skip (.exit 0)))
 (.seq (.block 1 (.ops [⟨(some 26), .faddr 2 (.t 5), none, false, []⟩,
   ⟨(some 27), .load false 1 (.t 26), none, false, []⟩,
   ⟨(some 28), .mv (.t 4), none, false, []⟩,
   ⟨(some 29), .mv (.t 6), none, false, []⟩,
   ⟨(some 30), .iaddr none 4 (.t 28) (.t 29), none, false, []⟩,
   ⟨(some 31), .faddr 2 (.t 30), none, false, []⟩,
   ⟨(some 32), .load false 1 (.t 31), none, false, []⟩,
   ⟨(some 33), .bslice false 1 [.str []] [(0, 1, (.t 32))], none, false, []⟩,
   ⟨(some 34), .app false 1 16 (.t 27) (.t 33), none, false, []⟩,
   ⟨(some 35), .faddr 2 (.t 5), none, false, []⟩,
   ⟨none, .store 1 (.t 35) (.t 34), none, false, []⟩] (some [[], [0], [], [], [2, 3], [2, 3, 4], [2, 3, 4, 5], [2, 3, 4, 5, 6], [0, 1, 2, 3, 4, 5, 6, 7], [0, 1, 2, 3, 4, 5, 6, 7, 8], [0, 1, 2, 3, 4, 5, 6, 7, 8, 9]])))
 (.ops [⟨(some 24), .mv (.t 6), none, false, []⟩,
   ⟨(some 25), .bin .sc .add (.t 24) (.c (.int .i64 1)), none, false, []⟩,
   ⟨(some 6), .mv (.t 25), none, false, []⟩] none))))))
 (.seq (.ops [⟨(some 36), .load true 9 (.t 5), none, false, []⟩,
   ⟨none, .store 9 (.t 2) (.t 36), none, false, []⟩] none)
 .ret))))))) }
/- (*warpref9.parser).atom -/
def f74 : AFunc :=
 { np := 1, ntmps := 104, results := [.cell 2 6 true], frz := false, body :=
 (.seq (.ops [⟨(some 2), .alloc true [.int .i64 0, .int .i64 0, .str [], .int .i64 0, .pl [] 0 .nil, .pl [] 0 .nil], none, false, []⟩] none)
 (.seq (.seq (.ops [⟨(some 6), .mv (.t 0), none, false, []⟩,
   ⟨(some 7), .call (.c (.func 75 [] [])) [(.t 6)], none, false, []⟩,
   ⟨(some 8), .not (.t 7), none, false, []⟩] none)
 (.cond (.t 8) (.seq (.ops [⟨(some 9), .mv (.t 0), none, false, []⟩,
   ⟨(some 10), .call (.c (.func 70 [] [])) [(.t 9)], none, false, []⟩] none)
 (.seq (.ops [⟨(some 11), .build [.int .i64 0, .int .i64 0, .str [], .int .i64 0, .pl [] 0 .nil, .pl [] 0 .nil] [], none, false, []⟩,
   ⟨none, .store 6 (.t 2) (.t 11), none, false, []⟩] none)
 .ret)) .skip))
 (.seq (.ops [⟨(some 12), .mv (.t 0), none, false, []⟩,
   ⟨(some 13), .nilck (.t 12), none, false, []⟩,
   ⟨(some 14), .faddr 0 (.t 13), none, false, []⟩,
   ⟨(some 15), .load false 1 (.t 14), none, false, []⟩,
   ⟨(some 16), .mv (.t 0), none, false, []⟩,
   ⟨(some 17), .nilck (.t 16), none, false, []⟩,
   ⟨(some 18), .faddr 1 (.t 17), none, false, []⟩,
   ⟨(some 19), .load false 1 (.t 18), none, false, []⟩,
   ⟨(some 20), .iaddr none 4 (.t 15) (.t 19), none, false, []⟩,
   ⟨(some 21), .load true 4 (.t 20), none, false, []⟩,
   ⟨(some 3), .alloc true [.int .i64 0, .int .i64 0, .str [], .int .i64 0], none, false, []⟩,
   ⟨none, .store 4 (.t 3) (.t 21), none, false, []⟩] (some [[], [0], [0, 1], [0, 1, 2], [], [4], [4, 5], [4, 5, 6], [0, 1, 2, 3, 4, 5, 6, 7], [0, 1, 2, 3, 4, 5, 6, 7, 8], [], [0, 1, 2, 3, 4, 5, 6, 7, 8, 9, 10]]))
 (.seq (.ops [⟨(some 22), .mv (.t 0), none, false, []⟩,
   ⟨(some 23), .nilck (.t 22), none, false, []⟩,
   ⟨(some 24), .faddr 1 (.t 23), none, false, []⟩,
   ⟨(some 25), .load false 1 (.t 24), none, false, []⟩,
   ⟨(some 26), .bin .sc .add (.t 25) (.c (.int .i64 1)), none, false, []⟩,
   ⟨(some 27), .nilck (.t 22), none, false, []⟩,
   ⟨(some 28), .faddr 1 (.t 27), none, false, []⟩,
   ⟨none, .store 1 (.t 28) (.t 26), none, false, []⟩] none)
 (.seq (.seq (.ops [⟨(some 29), .faddr 0 (.t 3), none, false, []⟩,
   ⟨(some 30), .load false 1 (.t 29), none, false, []⟩] none)
 (.block 0 (.seq (.ops [⟨(some 32), .bin .sc .eql (.t 30) (.c (.int .i64 1)), none, false, []⟩,
   ⟨(some 31), .mv (.t 32), none, false, []⟩] none)
 (.cond (.t 31) (.seq (.ops [⟨(some 33), .faddr 1 (.t 3), none, false, []⟩,
   ⟨(some 34), .load false 1 (.t 33), none, false, []⟩,
   ⟨(some 35), .faddr 2 (.t 3), none, false, []⟩,
   ⟨(some 36), .load false 1 (.t 35), none, false, []⟩,
   ⟨(some 37), .build [.int .i64 0, .int .i64 0, .str [], .int .i64 0, .pl [] 0 .nil, .pl [] 0 .nil] [(0, 1, (.c (.int .i64 1))), (1, 1, (.t 34)), (2, 1, (.t 36))], none, false, []⟩,
   ⟨none, .store 6 (.t 2) (.t 37), none, false, []⟩] none)
 .ret) (.seq (.ops [⟨(some 39), .bin .sc .eql (.t 30) (.c (.int .i64 2)), none, false, []⟩,
   ⟨(some 38), .mv (.t 39), none, false, []⟩] none)
 (.cond (.t 38) (.seq (.ops [⟨(some 40), .faddr 1 (.t 3), none, false, []⟩,
   ⟨(some 41), .load false 1 (.t 40), none, false, []⟩,
   ⟨(some 42), .faddr 2 (.t 3), none, false, []⟩,
   ⟨(some 43), .load false 1 (.t 42), none, false, []⟩,
   ⟨(some 44), .build [.int .i64 0, .int .i64 0, .str [], .int .i64 0, .pl [] 0 .nil, .pl [] 0 .nil] [(0, 1, (.c (.int .i64 2))), (1, 1, (.t 41)), (2, 1, (.t 43))], none, false, []⟩,
   ⟨none, .store 6 (.t 2) (.t 44), none, false, []⟩] none)
 .ret) (.seq (.ops [⟨(some 46), .bin .sc .eql (.t 30) (.c (.int .i64 3)), none, false, []⟩,
   ⟨(some 45), .mv (.t 46), none, false, []⟩] none)
 (.cond (.t 45) (.seq (.ops [⟨(some 47), .faddr 1 (.t 3), none, false, []⟩,
   ⟨(some 48), .load false 1 (.t 47), none, false, []⟩,
   ⟨(some 49), .faddr 3 (.t 3), none, false, []⟩,
   ⟨(some 50), .load false 1 (.t 49), none, false, []⟩,
   ⟨(some 51), .build [.int .i64 0, .int .i64 0, .str [], .int .i64 0, .pl [] 0 .nil, .pl [] 0 .nil] [(0, 1, (.c (.int .i64 3))), (1, 1, (.t 48)), (3, 1, (.t 50))], none, false, []⟩,
   ⟨none, .store 6 (.t 2) (.t 51), none, false, []⟩] none)
 .ret) (.seq (.ops [⟨(some 53), .bin .sc .eql (.t 30) (.c (.int .i64 4)), none, false, []⟩,
   ⟨(some 52), .mv (.t 53), none, false, []⟩] none)
 (.cond (.t 52) (.seq (.ops [⟨(some 54), .faddr 1 (.t 3), none, false, []⟩,
   ⟨(some 55), .load false 1 (.t 54), none, false, []⟩,
   ⟨(some 56), .build [.int .i64 0, .int .i64 0, .str [], .int .i64 0, .pl [] 0 .nil, .pl [] 0 .nil] [(0, 1, (.c (.int .i64 4))), (1, 1, (.t 55))], none, false, []⟩,
   ⟨(some 4), .alloc true [.int .i64 0, .int .i64 0, .str [], .int .i64 0, .pl [] 0 .nil, .pl [] 0 .nil], none, false, []⟩,
   ⟨none, .store 6 (.t 4) (.t 56), none, false, []⟩] none)
 (.seq (.seq (.ops [⟨(some 57), .faddr 2 (.t 3), none, false, []⟩,
   ⟨(some 58), .load false 1 (.t 57), none, false, []⟩,
   ⟨(some 59), .bin .sc .eql (.t 58) (.c (.str [116, 114, 117, 101])), none, false, []⟩] none)
 (.cond (.t 59) (.ops [⟨(some 60), .faddr 3 (.t 4), none, false, []⟩,
   ⟨none, .store 1 (.t 60) (.c (.int .i64 1)), none, false, []⟩] none) .skip))
 (.seq (.ops [⟨(some 61), .load true 6 (.t 4), none, false, []⟩,
   ⟨none, .store 6 (.t 2) (.t 61), none, false, []⟩] none)
 .ret))) .skip))))))))))
 (.seq (.ops [⟨(some 62), .mv (.t 0), none, false, []⟩,
   ⟨(some 63), .call (.c (.func 40 [] [])) [(.t 62)], none, false, []⟩,
   ⟨(some 64), .bslice false 1 [.int .i64 0, .int .i64 0, .str [], .int .i64 0, .pl [] 0 .nil, .pl [] 0 .nil] [(0, 6, (.t 63))], none, false, []⟩,
   ⟨(some 5), .mv (.t 64), none, false, []⟩] none)
 (.seq (.block 1 (.loop (.seq (.seq (.ops [⟨(some 65), .mv (.t 0), none, false, []⟩,
   ⟨(some 66), .nilck (.t 65), none, false, []⟩,
   ⟨(some 67), .faddr 3 (.t 66), none, false, []⟩,
   ⟨(some 68), .load false 1 (.t 67), none, false, []⟩,
   ⟨(some 69), .not (.t 68), none, false, []⟩,
   ⟨(some 70), .mv (.t 69), none, false, []⟩,
   ⟨(some 71), .mv (.t 0), (some (70, true)), false, []⟩,
   ⟨(some 72), .call (.c (.func 33 [] [])) [(.t 71), (.c (.int .i64 5)), (.c (.str [44]))], (some (70, true)), false, []⟩,
   ⟨(some 73), .pick (.t 70) (.t 72) (.c (.bool false)), none, false, []⟩] none)
 (.cond (.t 73) .skip (.exit 1)))
 (.block 2 (.seq (.seq (.ops [⟨(some 74), .mv (.t 5), none, false, []⟩,
   ⟨(some 75), .len 1 (.t 74), none, false, []⟩,
   ⟨(some 76), .bin .sc .eql (.t 75) (.c (.int .i64 8)), none, false, []⟩] none)
 (.cond (.t 76) (.seq (.ops [⟨(some 77), .mv (.t 0), none, false, []⟩,
   ⟨(some 78), .call (.c (.func 70 [] [])) [(.t 77)], none, false, []⟩] none)
 (.seq (.ops [⟨(some 79), .build [.int .i64 0, .int .i64 0, .str [], .int .i64 0, .pl [] 0 .nil, .pl [] 0 .nil] [], none, false, []⟩,
   ⟨none, .store 6 (.t 2) (.t 79), none, false, []⟩] none)
 .ret)) .skip))
 (.seq (.ops [⟨(some 80), .mv (.t 0), none, false, []⟩,
   ⟨(some 81), .nilck (.t 80), none, false, []⟩,
   ⟨(some 82), .faddr 1 (.t 81), none, false, []⟩,
   ⟨(some 83), .load false 1 (.t 82), none, false, []⟩,
   ⟨(some 84), .bin .sc .add (.t 83) (.c (.int .i64 1)), none, false, []⟩,
   ⟨(some 85), .nilck (.t 80), none, false, []⟩,
   ⟨(some 86), .faddr 1 (.t 85), none, false, []⟩,
   ⟨none, .store 1 (.t 86) (.t 84), none, false, []⟩] none)
 (.ops [⟨(some 87), .mv (.t 5), none, false, []⟩,
   ⟨(some 88), .mv (.t 0), none, false, []⟩,
   ⟨(some 89), .call (.c (.func 40 [] [])) [(.t 88)], none, false, []⟩,
   ⟨(some 90), .bslice false 1 [.int .i64 0, .int .i64 0, .str [], .int .i64 0, .pl [] 0 .nil, .pl [] 0 .nil] [(0, 6, (.t 89))], none, false, []⟩,
   ⟨(some 91), .app false 6 88 (.t 87) (.t 90), none, false, []⟩,
   ⟨(some 5), .mv (.t 91), none, false, []⟩] none)))))))
 (.seq (.ops [⟨(some 92), .mv (.t 0), none, false, []⟩,
   ⟨(some 93), .call (.c (.func 36 [] [])) [(.t 92), (.c (.str [41]))], none, false, []⟩] none)
 (.seq (.seq (.ops [⟨(some 94), .mv (.t 5), none, false, []⟩,
   ⟨(some 95), .len 1 (.t 94), none, false, []⟩,
   ⟨(some 96), .bin .sc .eql (.t 95) (.c (.int .i64 1)), none, false, []⟩] none)
 (.cond (.t 96) (.seq (.ops [⟨(some 97), .mv (.t 5), none, false, []⟩,
   ⟨(some 98), .iaddr none 6 (.t 97) (.c (.int .i64 0)), none, false, []⟩,
   ⟨(some 99), .load true 6 (.t 98), none, false, []⟩,
   ⟨none, .store 6 (.t 2) (.t 99), none, false, []⟩] none)
 .ret) .skip))
 (.seq (.ops [⟨(some 100), .faddr 1 (.t 3), none, false, []⟩,
   ⟨(some 101), .load false 1 (.t 100), none, false, []⟩,
   ⟨(some 102), .mv (.t 5), none, false, []⟩,
   ⟨(some 103), .build [.int .i64 0, .int .i64 0, .str [], .int .i64 0, .pl [] 0 .nil, .pl [] 0 .nil] [(0, 1, (.c (.int .i64 8))), (1, 1, (.t 101)), (4, 1, (.t 102))], none, false, []⟩,
   ⟨none, .store 6 (.t 2) (.t 103), none, false, []⟩] none)
 .ret)))))))))) }
/- (*warpref9.parser).atomic -/
def f75 : AFunc :=
 { np := 1, ntmps := 25, results := [.tmp 2], frz := false, body :=
 (.seq (.ops [⟨(some 2), .mv (.c (.bool false)), none, false, []⟩] none)
 (.seq (.ops [⟨(some 3), .mv (.t 0), none, false, []⟩,
   ⟨(some 4), .call (.c (.func 33 [] [])) [(.t 3), (.c (.int .i64 1)), (.c (.str []))], none, false, []⟩,
   ⟨(some 5), .mv (.t 4), none, false, []⟩,
   ⟨(some 6), .mv (.t 0), (some (5, false)), false, []⟩,
   ⟨(some 7), .call (.c (.func 33 [] [])) [(.t 6), (.c (.int .i64 2)), (.c (.str []))], (some (5, false)), false, []⟩,
   ⟨(some 8), .pick (.t 5) (.c (.bool true)) (.t 7), none, false, []⟩,
   ⟨(some 9), .mv (.t 8), none, false, []⟩,
   ⟨(some 10), .mv (.t 0), (some (9, false)), false, []⟩,
   ⟨(some 11), .call (.c (.func 33 [] [])) [(.t 10), (.c (.int .i64 3)), (.c (.str []))], (some (9, false)), false, []⟩,
   ⟨(some 12), .pick (.t 9) (.c (.bool true)) (.t 11), none, false, []⟩,
   ⟨(some 13), .mv (.t 12), none, false, []⟩,
   ⟨(some 14), .mv (.t 0), (some (13, false)), false, []⟩,
   ⟨(some 15), .call (.c (.func 33 [] [])) [(.t 14), (.c (.int .i64 4)), (.c (.str [116, 114, 117, 101]))], (some (13, false)), false, []⟩,
   ⟨(some 16), .pick (.t 13) (.c (.bool true)) (.t 15), none, false, []⟩,
   ⟨(some 17), .mv (.t 16), none, false, []⟩,
   ⟨(some 18), .mv (.t 0), (some (17, false)), false, []⟩,
   ⟨(some 19), .call (.c (.func 33 [] [])) [(.t 18), (.c (.int .i64 4)), (.c (.str [102, 97, 108, 115, 101]))], (some (17, false)), false, []⟩,
   ⟨(some 20), .pick (.t 17) (.c (.bool true)) (.t 19), none, false, []⟩,
   ⟨(some 21), .mv (.t 20), none, false, []⟩,
   ⟨(some 22), .mv (.t 0), (some (21, false)), false, []⟩,
   ⟨(some 23), .call (.c (.func 33 [] [])) [(.t 22), (.c (.int .i64 5)), (.c (.str [40]))], (some (21, false)), false, []⟩,
   ⟨(some 24), .pick (.t 21) (.c (.bool true)) (.t 23), none, false, []⟩,
   ⟨(some 2), .mv (.t 24), none, false, []⟩] none)
 .ret)) }
/- warpref9.Deep -/
def f76 : AFunc :=
 { np := 1, ntmps := 39, results := [.tmp 2], frz := false, body :=
 (.seq (.ops [⟨(some 1), .box true (.t 0), none, false, []⟩,
   ⟨(some 2), .mv (.c (.int .i64 0)), none, false, []⟩] none)
 (.seq (.ops [⟨(some 3), .mv (.c (.int .i64 0)), none, false, []⟩] none)
 (.seq (.seq (.ops [⟨(some 4), .mv (.c (.int .i64 0)), none, false, []⟩] none)
 (.block 0 (.loop (.seq (.seq (.ops [⟨(some 6), .mv (.t 4), none, false, []⟩,
   ⟨(some 7), .faddr 4 (.t 1), none, false, []⟩,
   ⟨(some 8), .load false 1 (.t 7), none, false, []⟩,
   ⟨(some 9), .len 1 (.t 8), none, false, []⟩,
   ⟨(some 10), .bin .sc .lss (.t 6) (.t 9), none, false, []⟩] none)
 (.cond (.t 10) .skip (.exit 0)))
 (.seq (.block 1 (.ops [⟨(some 13), .mv (.t 3), none, false, []⟩,
   ⟨(some 14), .faddr 4 (.t 1), none, false, []⟩,
   ⟨(some 15), .load false 1 (.t 14), none, false, []⟩,
   ⟨(some 16), .mv (.t 4), none, false, []⟩,
   ⟨(some 17), .iaddr none 6 (.t 15) (.t 16), none, false, []⟩,
   ⟨(some 18), .load true 6 (.t 17), none, false, []⟩,
   ⟨(some 19), .call (.c (.func 76 [] [])) [(.t 18)], none, false, []⟩,
   ⟨(some 20), .max [(.t 13), (.t 19)], none, false, []⟩,
   ⟨(some 3), .mv (.t 20), none, false, []⟩] none))
 (.ops [⟨(some 11), .mv (.t 4), none, false, []⟩,
   ⟨(some 12), .bin .sc .add (.t 11) (.c (.int .i64 1)), none, false, []⟩,
   ⟨(some 4), .mv (.t 12), none, false, []⟩] none))))))
 (.seq (.seq (.ops [⟨(some 5), .mv (.c (.int .i64 0)), none, false, []⟩] none)
 (.block 2 (.loop (.seq (.seq (.ops [⟨(some 21), .mv (.t 5), none, false, []⟩,
   ⟨(some 22), .faddr 5 (.t 1), none, false, []⟩,
   ⟨(some 23), .load false 1 (.t 22), none, false, []⟩,
   ⟨(some 24), .len 1 (.t 23), none, false, []⟩,
   ⟨(some 25), .bin .sc .lss (.t 21) (.t 24), none, false, []⟩] none)
 (.cond (.t 25) .skip (.exit 2)))
 (.seq (.block 3 (.ops [⟨(some 28), .mv (.t 3), none, false, []⟩,
   ⟨(some 29), .faddr 5 (.t 1), none, false, []⟩,
   ⟨(some 30), .load false 1 (.t 29), none, false, []⟩,
   ⟨(some 31), .mv (.t 5), none, false, []⟩,
   ⟨(some 32), .iaddr none 9 (.t 30) (.t 31), none, false, []⟩,
   ⟨(some 33), .faddr 3 (.t 32), none, false, []⟩,
   ⟨(some 34), .load true 6 (.t 33), none, false, []⟩,
   ⟨(some 35), .call (.c (.func 76 [] [])) [(.t 34)], none, false, []⟩,
   ⟨(some 36), .max [(.t 28), (.t 35)], none, false, []⟩,
   ⟨(some 3), .mv (.t 36), none, false, []⟩] none))
 (.ops [⟨(some 26), .mv (.t 5), none, false, []⟩,
   ⟨(some 27), .bin .sc .add (.t 26) (.c (.int .i64 1)), none, false, []⟩,
   ⟨(some 5), .mv (.t 27), none, false, []⟩] none))))))
 (.seq (.ops [⟨(some 37), .mv (.t 3), none, false, []⟩,
   ⟨(some 38), .bin .sc .add (.t 37) (.c (.int .i64 1)), none, false, []⟩,
   ⟨(some 2), .mv (.t 38), none, false, []⟩] none)
 .ret))))) }
/- warpref9.deep -/
def f77 : AFunc :=
 { np := 1, ntmps := 22, results := [.tmp 2], frz := false, body :=
 (.seq (.ops [⟨(some 1), .box true (.t 0), none, false, []⟩,
   ⟨(some 2), .mv (.c (.int .i64 0)), none, false, []⟩] none)
 (.seq (.ops [⟨(some 3), .mv (.c (.int .i64 0)), none, false, []⟩] none)
 (.seq (.seq (.ops [⟨(some 4), .mv (.c (.int .i64 0)), none, false, []⟩] none)
 (.block 0 (.loop (.seq (.seq (.ops [⟨(some 5), .mv (.t 4), none, false, []⟩,
   ⟨(some 6), .faddr 3 (.t 1), none, false, []⟩,
   ⟨(some 7), .load false 1 (.t 6), none, false, []⟩,
   ⟨(some 8), .len 1 (.t 7), none, false, []⟩,
   ⟨(some 9), .bin .sc .lss (.t 5) (.t 8), none, false, []⟩] none)
 (.cond (.t 9) .skip (.exit 0)))
 (.seq (.block 1 (.ops [⟨(some 12), .mv (.t 3), none, false, []⟩,
   ⟨(some 13), .faddr 3 (.t 1), none, false, []⟩,
   ⟨(some 14), .load false 1 (.t 13), none, false, []⟩,
   ⟨(some 15), .mv (.t 4), none, false, []⟩,
   ⟨(some 16), .iaddr none 4 (.t 14) (.t 15), none, false, []⟩,
   ⟨(some 17), .load true 4 (.t 16), none, false, []⟩,
   ⟨(some 18), .call (.c (.func 77 [] [])) [(.t 17)], none, false, []⟩,
   ⟨(some 19), .max [(.t 12), (.t 18)], none, false, []⟩,
   ⟨(some 3), .mv (.t 19), none, false, []⟩] none))
 (.ops [⟨(some 10), .mv (.t 4), none, false, []⟩,
   ⟨(some 11), .bin .sc .add (.t 10) (.c (.int .i64 1)), none, false, []⟩,
   ⟨(some 4), .mv (.t 11), none, false, []⟩] none))))))
 (.seq (.ops [⟨(some 20), .mv (.t 3), none, false, []⟩,
   ⟨(some 21), .bin .sc .add (.t 20) (.c (.int .i64 1)), none, false, []⟩,
   ⟨(some 2), .mv (.t 21), none, false, []⟩] none)
 .ret)))) }
/- math/bits.Len -/
def f83 : AFunc :=
 { np := 1, ntmps := 8, results := [.tmp 2], frz := false, body :=
 (.seq (.ops [⟨(some 2), .mv (.c (.int .i64 0)), none, false, []⟩] none)
 (.seq (.cond (.c (.bool false)) (.seq (.ops [⟨(some 3), .mv (.t 0), none, false, []⟩,
   ⟨(some 4), .cint .u32 (.t 3), none, false, []⟩,
   ⟨(some 5), .call (.c (.func 107 [] [])) [(.t 4)], none, false, []⟩,
   ⟨(some 2), .mv (.t 5), none, false, []⟩] none)
 .ret) .skip)
 (.seq (.ops [⟨(some 6), .mv (.t 0), none, false, []⟩,
   ⟨(some 7), .call (.c (.func 108 [] [])) [(.t 6)], none, false, []⟩,
   ⟨(some 2), .mv (.t 7), none, false, []⟩] none)
 .ret))) }
/- slices.Clone[[]string,string] -/
def f84 : AFunc :=
 { np := 1, ntmps := 8, results := [.tmp 2], frz := false, body :=
 (.seq (.ops [⟨(some 2), .mv (.c (.pl [] 0 .nil)), none, false, []⟩] none)
 (.seq (.seq (.ops [⟨(some 3), .mv (.t 0), none, false, []⟩,
   ⟨(some 4), .bin .slice .eql (.t 3) (.c (.pl [] 0 .nil)), none, false, []⟩] none)
 (.cond (.t 4) (.seq (.ops [⟨(some 2), .mv (.c (.pl [] 0 .nil)), none, false, []⟩] none)
 .ret) .skip))
 (.seq (.ops [⟨(some 5), .bslice false 0 [] [], none, false, []⟩,
   ⟨(some 6), .mv (.t 0), none, false, []⟩,
   ⟨(some 7), .app true 1 16 (.t 5) (.t 6), none, false, []⟩,
   ⟨(some 2), .mv (.t 7), none, false, []⟩] none)
 .ret))) }
/- slices.Sort[[]string,string] -/
def f85 : AFunc :=
 { np := 1, ntmps := 11, results := [], frz := false, body :=
 (.seq (.ops [⟨(some 3), .mv (.t 0), none, false, []⟩,
   ⟨(some 4), .len 1 (.t 3), none, false, []⟩,
   ⟨(some 2), .mv (.t 4), none, false, []⟩] none)
 (.ops [⟨(some 5), .mv (.t 0), none, false, []⟩,
   ⟨(some 6), .mv (.t 2), none, false, []⟩,
   ⟨(some 7), .mv (.t 2), none, false, []⟩,
   ⟨(some 8), .cint .u64 (.t 7), none, false, []⟩,
   ⟨(some 9), .call (.c (.func 83 [] [])) [(.t 8)], none, false, []⟩,
   ⟨(some 10), .call (.c (.func 109 [] [])) [(.t 5), (.c (.int .i64 0)), (.t 6), (.t 9)], none, false, []⟩] none)) }
/- slices.Compact[[]string,string] -/
def f86 : AFunc :=
 { np := 1, ntmps := 61, results := [.tmp 2], frz := false, body :=
 (.seq (.ops [⟨(some 2), .mv (.c (.pl [] 0 .nil)), none, false, []⟩] none)
 (.seq (.seq (.ops [⟨(some 6), .mv (.t 0), none, false, []⟩,
   ⟨(some 7), .len 1 (.t 6), none, false, []⟩,
   ⟨(some 8), .bin .sc .lss (.t 7) (.c (.int .i64 2)), none, false, []⟩] none)
 (.cond (.t 8) (.seq (.ops [⟨(some 9), .mv (.t 0), none, false, []⟩,
   ⟨(some 2), .mv (.t 9), none, false, []⟩] none)
 .ret) .skip))
 (.seq (.seq (.ops [⟨(some 3), .mv (.c (.int .i64 1)), none, false, []⟩] none)
 (.block 0 (.loop (.seq (.seq (.ops [⟨(some 10), .mv (.t 3), none, false, []⟩,
   ⟨(some 11), .mv (.t 0), none, false, []⟩,
   ⟨(some 12), .len 1 (.t 11), none, false, []⟩,
   ⟨(some 13), .bin .sc .lss (.t 10) (.t 12), none, false, []⟩] none)
 (.cond (.t 13) .skip (.exit 0)))
 (.seq (.block 1 (.seq (.ops [⟨(some 16), .mv (.t 0), none, false, []⟩,
   ⟨(some 17), .mv (.t 3), none, false, []⟩,
   ⟨(some 18), .iaddr none 1 (.t 16) (.t 17), none, false, []⟩,
   ⟨(some 19), .load false 1 (.t 18), none, false, []⟩,
   ⟨(some 20), .mv (.t 0), none, false, []⟩,
   ⟨(some 21), .mv (.t 3), none, false, []⟩,
   ⟨(some 22), .bin .sc .sub (.t 21) (.c (.int .i64 1)), none, false, []⟩,
   ⟨(some 23), .iaddr none 1 (.t 20) (.t 22), none, false, []⟩,
   ⟨(some 24), .load false 1 (.t 23), none, false, []⟩,
   ⟨(some 25), .bin .sc .eql (.t 19) (.t 24), none, false, []⟩] (some [[], [], [0, 1], [0, 1, 2], [], [], [5], [4, 5, 6], [4, 5, 6, 7], [0, 1, 2, 3, 4, 5, 6, 7, 8]]))
 (.cond (.t 25) (.seq (.ops [⟨(some 26), .mv (.t 0), none, false, []⟩,
   ⟨(some 27), .mv (.t 3), none, false, []⟩,
   ⟨(some 28), .sliceL 1 (.t 26) (some (.t 27)) none none, none, false, []⟩,
   ⟨(some 4), .mv (.t 28), none, false, []⟩] none)
 (.seq (.seq (.ops [⟨(some 5), .mv (.c (.int .i64 1)), none, false, []⟩] none)
 (.block 2 (.loop (.seq (.seq (.ops [⟨(some 29), .mv (.t 5), none, false, []⟩,
   ⟨(some 30), .mv (.t 4), none, false, []⟩,
   ⟨(some 31), .len 1 (.t 30), none, false, []⟩,
   ⟨(some 32), .bin .sc .lss (.t 29) (.t 31), none, false, []⟩] none)
 (.cond (.t 32) .skip (.exit 2)))
 (.seq (.block 3 (.seq (.ops [⟨(some 35), .mv (.t 4), none, false, []⟩,
   ⟨(some 36), .mv (.t 5), none, false, []⟩,
   ⟨(some 37), .iaddr none 1 (.t 35) (.t 36), none, false, []⟩,
   ⟨(some 38), .load false 1 (.t 37), none, false, []⟩,
   ⟨(some 39), .mv (.t 4), none, false, []⟩,
   ⟨(some 40), .mv (.t 5), none, false, []⟩,
   ⟨(some 41), .bin .sc .sub (.t 40) (.c (.int .i64 1)), none, false, []⟩,
   ⟨(some 42), .iaddr none 1 (.t 39) (.t 41), none, false, []⟩,
   ⟨(some 43), .load false 1 (.t 42), none, false, []⟩,
   ⟨(some 44), .bin .sc .neq (.t 38) (.t 43), none, false, []⟩] (some [[], [], [0, 1], [0, 1, 2], [], [], [5], [4, 5, 6], [4, 5, 6, 7], [0, 1, 2, 3, 4, 5, 6, 7, 8]]))
 (.cond (.t 44) (.seq (.ops [⟨(some 45), .mv (.t 0), none, false, []⟩,
   ⟨(some 46), .mv (.t 3), none, false, []⟩,
   ⟨(some 47), .mv (.t 4), none, false, []⟩,
   ⟨(some 48), .mv (.t 5), none, false, []⟩,
   ⟨(some 49), .iaddr none 1 (.t 47) (.t 48), none, false, []⟩,
   ⟨(some 50), .load false 1 (.t 49), none, false, []⟩,
   ⟨(some 51), .iaddr none 1 (.t 45) (.t 46), none, false, []⟩,
   ⟨none, .store 1 (.t 51) (.t 50), none, false, []⟩] none)
 (.ops [⟨(some 52), .mv (.t 3), none, false, []⟩,
   ⟨(some 53), .bin .sc .add (.t 52) (.c (.int .i64 1)), none, false, []⟩,
   ⟨(some 3), .mv (.t 53), none, false, []⟩] none)) .skip)))
 (.ops [⟨(some 33), .mv (.t 5), none, false, []⟩,
   ⟨(some 34), .bin .sc .add (.t 33) (.c (.int .i64 1)), none, false, []⟩,
   ⟨(some 5), .mv (.t 34), none, false, []⟩] none))))))
 (.seq (.ops [⟨(some 54), .mv (.t 0), none, false, []⟩,
   ⟨(some 55), .mv (.t 3), none, false, []⟩,
   ⟨(some 56), .sliceL 1 (.t 54) (some (.t 55)) none none, none, false, []⟩,
   ⟨none, .clr 1 [.str []] (.t 56), none, false, []⟩] none)
 (.seq (.ops [⟨(some 57), .mv (.t 0), none, false, []⟩,
   ⟨(some 58), .mv (.t 3), none, false, []⟩,
   ⟨(some 59), .sliceL 1 (.t 57) none (some (.t 58)) none, none, false, []⟩,
   ⟨(some 2), .mv (.t 59), none, false, []⟩] none)
 .ret)))) .skip)))
 (.ops [⟨(some 14), .mv (.t 3), none, false, []⟩,
   ⟨(some 15), .bin .sc .add (.t 14) (.c (.int .i64 1)), none, false, []⟩,
   ⟨(some 3), .mv (.t 15), none, false, []⟩] none))))))
 (.seq (.ops [⟨(some 60), .mv (.t 0), none, false, []⟩,
   ⟨(some 2), .mv (.t 60), none, false, []⟩] none)
 .ret)))) }
/- slices.IndexFunc[[]api.Type,api.Type] -/
def f87 : AFunc :=
 { np := 2, ntmps := 19, results := [.tmp 4], frz := false, body :=
 (.seq (.ops [⟨(some 4), .mv (.c (.int .i64 0)), none, false, []⟩] none)
 (.seq (.seq (.ops [⟨(some 6), .mv (.t 0), none, false, []⟩,
   ⟨(some 7), .len 1 (.t 6), none, false, []⟩,
   ⟨(some 8), .mv (.c (.int .i64 0)), none, false, []⟩] none)
 (.block 0 (.loop (.seq (.ops [⟨(some 9), .bin .sc .lss (.t 8) (.t 7), none, false, []⟩] none)
 (.seq (.cond (.t 9) .skip (.exit 0))
 (.seq (.block 1 (.seq (.ops [⟨(some 10), .mv (.t 8), none, false, []⟩,
   ⟨(some 5), .mv (.t 10), none, false, []⟩] none)
 (.seq (.ops [⟨(some 11), .mv (.t 1), none, false, []⟩,
   ⟨(some 12), .mv (.t 0), none, false, []⟩,
   ⟨(some 13), .mv (.t 5), none, false, []⟩,
   ⟨(some 14), .iaddr none 4 (.t 12) (.t 13), none, false, []⟩,
   ⟨(some 15), .load true 4 (.t 14), none, false, []⟩,
   ⟨(some 16), .call (.t 11) [(.t 15)], none, false, []⟩] none)
 (.cond (.t 16) (.seq (.ops [⟨(some 17), .mv (.t 5), none, false, []⟩,
   ⟨(some 4), .mv (.t 17), none, false, []⟩] none)
 .ret) .skip))))
 (.ops [⟨(some 18), .bin .sc .add (.t 8) (.c (.int .i64 1)), none, false, []⟩,
   ⟨(some 8), .mv (.t 18), none, false, []⟩] none)))))))
 (.seq (.ops [⟨(some 4), .mv (.c (.int .i64 (-1))), none, false, []⟩] none)
 .ret))) }
/- data.right$1 -/
def f88 : AFunc :=
 { np := 3, ntmps := 10, results := [.tmp 4], frz := false, body :=
 (.seq (.ops [⟨(some 3), .box true (.t 0), none, false, []⟩,
   ⟨(some 4), .mv (.c (.bool false)), none, false, []⟩] none)
 (.seq (.ops [⟨(some 5), .load false 1 (.t 1), none, false, []⟩,
   ⟨(some 6), .load true 4 (.t 3), none, false, []⟩,
   ⟨(some 7), .load false 1 (.t 2), none, false, []⟩,
   ⟨(some 8), .call (.c (.func 54 [] [])) [(.t 5), (.t 6), (.t 7)], none, false, []⟩,
   ⟨(some 9), .not (.t 8), none, false, []⟩,
   ⟨(some 4), .mv (.t 9), none, false, []⟩] none)
 .ret)) }
/- data.arity -/
def f89 : AFunc :=
 { np := 2, ntmps := 23, results := [.tmp 4], frz := false, body :=
 (.seq (.ops [⟨(some 3), .box false (.t 1), none, false, []⟩,
   ⟨(some 4), .mv (.c (.int .i64 0)), none, false, []⟩] none)
 (.seq (.seq (.ops [⟨(some 6), .load false 1 (.t 3), none, false, []⟩,
   ⟨(some 7), .bin .sc .eql (.t 6) (.c (.str [73, 110, 116])), none, false, []⟩,
   ⟨(some 8), .mv (.t 7), none, false, []⟩,
   ⟨(some 9), .load false 1 (.t 3), (some (8, false)), false, []⟩,
   ⟨(some 10), .bin .sc .eql (.t 9) (.c (.str [66, 111, 111, 108])), (some (8, false)), false, []⟩,
   ⟨(some 11), .pick (.t 8) (.c (.bool true)) (.t 10), none, false, []⟩] none)
 (.cond (.t 11) (.seq (.ops [⟨(some 4), .mv (.c (.int .i64 0)), none, false, []⟩] none)
 .ret) .skip))
 (.seq (.ops [⟨(some 12), .mv (.t 0), none, false, []⟩,
   ⟨(some 13), .mkfun 111 [] [(.t 3)], none, false, []⟩,
   ⟨(some 14), .call (.c (.func 110 [] [])) [(.t 12), (.t 13)], none, false, []⟩,
   ⟨(some 5), .mv (.t 14), none, false, []⟩] none)
 (.seq (.seq (.ops [⟨(some 15), .mv (.t 5), none, false, []⟩,
   ⟨(some 16), .bin .sc .lss (.t 15) (.c (.int .i64 0)), none, false, []⟩] none)
 (.cond (.t 16) (.seq (.ops [⟨(some 4), .mv (.c (.int .i64 (-1))), none, false, []⟩] none)
 .ret) .skip))
 (.seq (.ops [⟨(some 17), .mv (.t 0), none, false, []⟩,
   ⟨(some 18), .mv (.t 5), none, false, []⟩,
   ⟨(some 19), .iaddr none 4 (.t 17) (.t 18), none, false, []⟩,
   ⟨(some 20), .faddr 2 (.t 19), none, false, []⟩,
   ⟨(some 21), .load false 1 (.t 20), none, false, []⟩,
   ⟨(some 22), .len 1 (.t 21), none, false, []⟩,
   ⟨(some 4), .mv (.t 22), none, false, []⟩] none)
 .ret))))) }
/- warpref9.row -/
def f96 : AFunc :=
 { np := 1, ntmps := 22, results := [.tmp 2], frz := false, body :=
 (.seq (.ops [⟨(some 2), .mv (.c (.bool false)), none, false, []⟩] none)
 (.seq (.seq (.ops [⟨(some 3), .mv (.c (.int .i64 0)), none, false, []⟩] none)
 (.block 0 (.loop (.seq (.seq (.ops [⟨(some 4), .mv (.t 3), none, false, []⟩,
   ⟨(some 5), .mv (.t 0), none, false, []⟩,
   ⟨(some 6), .len 0 (.t 5), none, false, []⟩,
   ⟨(some 7), .bin .sc .lss (.t 4) (.t 6), none, false, []⟩] none)
 (.cond (.t 7) .skip (.exit 0)))
 (.seq (.block 1 (.seq (.ops [⟨(some 10), .mv (.t 0), none, false, []⟩,
   ⟨(some 11), .mv (.t 3), none, false, []⟩,
   ⟨(some 12), .index (.t 10) (.t 11), none, false, []⟩,
   ⟨(some 13), .call (.c (.func 64 [] [])) [(.t 12)], none, false, []⟩,
   ⟨(some 14), .not (.t 13), none, false, []⟩] none)
 (.cond (.t 14) (.seq (.ops [⟨(some 2), .mv (.c (.bool false)), none, false, []⟩] none)
 .ret) .skip)))
 (.ops [⟨(some 8), .mv (.t 3), none, false, []⟩,
   ⟨(some 9), .bin .sc .add (.t 8) (.c (.int .i64 1)), none, false, []⟩,
   ⟨(some 3), .mv (.t 9), none, false, []⟩] none))))))
 (.seq (.ops [⟨(some 15), .mv (.t 0), none, false, []⟩,
   ⟨(some 16), .bin .sc .neq (.t 15) (.c (.str [])), none, false, []⟩,
   ⟨(some 17), .mv (.t 16), none, false, []⟩,
   ⟨(some 18), .mv (.t 0), (some (17, true)), false, []⟩,
   ⟨(some 19), .len 0 (.t 18), (some (17, true)), false, []⟩,
   ⟨(some 20), .bin .sc .leq (.t 19) (.c (.int .i64 30)), (some (17, true)), false, []⟩,
   ⟨(some 21), .pick (.t 17) (.t 20) (.c (.bool false)), none, false, []⟩,
   ⟨(some 2), .mv (.t 21), none, false, []⟩] none)
 .ret))) }
/- (*warpref9.parser).typ -/
def f97 : AFunc :=
 { np := 2, ntmps := 34, results := [.cell 4 4 true], frz := false, body :=
 (.seq (.ops [⟨(some 4), .alloc true [.int .i64 0, .int .i64 0, .str [], .pl [] 0 .nil], none, false, []⟩] none)
 (.seq (.ops [⟨(some 7), .mv (.t 0), none, false, []⟩,
   ⟨(some 8), .call (.c (.func 33 [] [])) [(.t 7), (.c (.int .i64 2)), (.c (.str []))], none, false, []⟩,
   ⟨(some 5), .mv (.t 8), none, false, []⟩] none)
 (.seq (.ops [⟨(some 9), .mv (.t 0), none, false, []⟩,
   ⟨(some 10), .mv (.t 1), none, false, []⟩,
   ⟨(some 11), .call (.c (.func 72 [] [])) [(.t 9), (.t 10)], none, false, []⟩,
   ⟨(some 6), .alloc true [.int .i64 0, .int .i64 0, .str [], .pl [] 0 .nil], none, false, []⟩,
   ⟨none, .store 4 (.t 6) (.t 11), none, false, []⟩] none)
 (.seq (.block 0 (.loop (.seq (.seq (.ops [⟨(some 12), .mv (.t 5), none, false, []⟩,
   ⟨(some 13), .mv (.t 12), none, false, []⟩,
   ⟨(some 14), .mv (.t 0), (some (13, true)), false, []⟩,
   ⟨(some 15), .call (.c (.func 71 [] [])) [(.t 14)], (some (13, true)), false, []⟩,
   ⟨(some 16), .pick (.t 13) (.t 15) (.c (.bool false)), none, false, []⟩] none)
 (.cond (.t 16) .skip (.exit 0)))
 (.block 1 (.ops [⟨(some 17), .faddr 3 (.t 6), none, false, []⟩,
   ⟨(some 18), .load false 1 (.t 17), none, true, []⟩,
   ⟨(some 19), .mv (.t 0), none, false, []⟩,
   ⟨(some 20), .mv (.t 1), none, false, []⟩,
   ⟨(some 21), .call (.c (.func 72 [] [])) [(.t 19), (.t 20)], none, false, []⟩,
   ⟨(some 22), .bslice false 1 [.int .i64 0, .int .i64 0, .str [], .pl [] 0 .nil] [(0, 4, (.t 21))], none, false, []⟩,
   ⟨(some 23), .app false 4 56 (.t 18) (.t 22), none, false, []⟩,
   ⟨(some 24), .faddr 3 (.t 6), none, false, []⟩,
   ⟨none, .store 1 (.t 24) (.t 23), none, false, []⟩] (some [[], [0], [], [], [2, 3], [2, 3, 4], [0, 1, 2, 3, 4, 5], [0, 1, 2, 3, 4, 5, 6], [0, 1, 2, 3, 4, 5, 6, 7]]))))))
 (.seq (.seq (.ops [⟨(some 25), .mv (.t 0), none, false, []⟩,
   ⟨(some 26), .call (.c (.func 38 [] [])) [(.t 25), (.c (.str [45, 62]))], none, false, []⟩] none)
 (.cond (.t 26) (.seq (.ops [⟨(some 27), .load true 4 (.t 6), none, true, []⟩,
   ⟨(some 28), .mv (.t 0), none, false, []⟩,
   ⟨(some 29), .mv (.t 1), none, false, []⟩,
   ⟨(some 30), .call (.c (.func 97 [] [])) [(.t 28), (.t 29)], none, false, []⟩,
   ⟨(some 31), .bslice false 2 [.int .i64 0, .int .i64 0, .str [], .pl [] 0 .nil, .int .i64 0, .int .i64 0, .str [], .pl [] 0 .nil] [(0, 4, (.t 27)), (4, 4, (.t 30))], none, false, []⟩,
   ⟨(some 32), .build [.int .i64 0, .int .i64 0, .str [], .pl [] 0 .nil] [(0, 1, (.c (.int .i64 2))), (2, 1, (.c (.str [45, 62]))), (3, 1, (.t 31))], none, false, []⟩,
   ⟨none, .store 4 (.t 4) (.t 32), none, false, []⟩] (some [[], [], [], [1, 2], [0, 1, 2, 3], [0, 1, 2, 3, 4], [0, 1, 2, 3, 4, 5]]))
 .ret) .skip))
 (.seq (.ops [⟨(some 33), .load true 4 (.t 6), none, false, []⟩,
   ⟨none, .store 4 (.t 4) (.t 33), none, false, []⟩] none)
 .ret)))))) }
/- math/bits.Len32 -/
def f107 : AFunc :=
 { np := 1, ntmps := 19, results := [.tmp 2], frz := false, body :=
 (.seq (.ops [⟨(some 2), .mv (.c (.int .i64 0)), none, false, []⟩] none)
 (.seq (.seq (.ops [⟨(some 3), .mv (.t 0), none, false, []⟩,
   ⟨(some 4), .bin .sc .geq (.t 3) (.c (.int .u32 65536)), none, false, []⟩] none)
 (.cond (.t 4) (.seq (.ops [⟨(some 5), .mv (.t 0), none, false, []⟩,
   ⟨(some 6), .bin .sc .shr (.t 5) (.c (.int .u64 16)), none, false, []⟩,
   ⟨(some 0), .mv (.t 6), none, false, []⟩] none)
 (.ops [⟨(some 2), .mv (.c (.int .i64 16)), none, false, []⟩] none)) .skip))
 (.seq (.seq (.ops [⟨(some 7), .mv (.t 0), none, false, []⟩,
   ⟨(some 8), .bin .sc .geq (.t 7) (.c (.int .u32 256)), none, false, []⟩] none)
 (.cond (.t 8) (.seq (.ops [⟨(some 9), .mv (.t 0), none, false, []⟩,
   ⟨(some 10), .bin .sc .shr (.t 9) (.c (.int .u64 8)), none, false, []⟩,
   ⟨(some 0), .mv (.t 10), none, false, []⟩] none)
 (.ops [⟨(some 11), .mv (.t 2), none, false, []⟩,
   ⟨(some 12), .bin .sc .add (.t 11) (.c (.int .i64 8)), none, false, []⟩,
   ⟨(some 2), .mv (.t 12), none, false, []⟩] none)) .skip))
 (.seq (.ops [⟨(some 13), .mv (.t 2), none, false, []⟩,
   ⟨(some 14), .mv (.t 0), none, false, []⟩,
   ⟨(some 15), .cint .u8 (.t 14), none, false, []⟩,
   ⟨(some 16), .index (.c (.str [0, 1, 2, 2, 3, 3, 3, 3, 4, 4, 4, 4, 4, 4, 4, 4, 5, 5, 5, 5, 5, 5, 5, 5, 5, 5, 5, 5, 5, 5, 5, 5, 6, 6, 6, 6, 6, 6, 6, 6, 6, 6, 6, 6, 6, 6, 6, 6, 6, 6, 6, 6, 6, 6, 6, 6, 6, 6, 6, 6, 6, 6, 6, 6, 7, 7, 7, 7, 7, 7, 7, 7, 7, 7, 7, 7, 7, 7, 7, 7, 7, 7, 7, 7, 7, 7, 7, 7, 7, 7, 7, 7, 7, 7, 7, 7, 7, 7, 7, 7, 7, 7, 7, 7, 7, 7, 7, 7, 7, 7, 7, 7, 7, 7, 7, 7, 7, 7, 7, 7, 7, 7, 7, 7, 7, 7, 7, 7, 8, 8, 8, 8, 8, 8, 8, 8, 8, 8, 8, 8, 8, 8, 8, 8, 8, 8, 8, 8, 8, 8, 8, 8, 8, 8, 8, 8, 8, 8, 8, 8, 8, 8, 8, 8, 8, 8, 8, 8, 8, 8, 8, 8, 8, 8, 8, 8, 8, 8, 8, 8, 8, 8, 8, 8, 8, 8, 8, 8, 8, 8, 8, 8, 8, 8, 8, 8, 8, 8, 8, 8, 8, 8, 8, 8, 8, 8, 8, 8, 8, 8, 8, 8, 8, 8, 8, 8, 8, 8, 8, 8, 8, 8, 8, 8, 8, 8, 8, 8, 8, 8, 8, 8, 8, 8, 8, 8, 8, 8, 8, 8, 8, 8, 8, 8, 8, 8, 8, 8, 8, 8, 8, 8, 8, 8, 8, 8])) (.t 15), none, false, []⟩,
   ⟨(some 17), .cint .i64 (.t 16), none, false, []⟩,
   ⟨(some 18), .bin .sc .add (.t 13) (.t 17), none, false, []⟩,
   ⟨(some 2), .mv (.t 18), none, false, []⟩] none)
 .ret)))) }
/- math/bits.Len64 -/
def f108 : AFunc :=
 { np := 1, ntmps := 25, results := [.tmp 2], frz := false, body :=
 (.seq (.ops [⟨(some 2), .mv (.c (.int .i64 0)), none, false, []⟩] none)
 (.seq (.seq (.ops [⟨(some 3), .mv (.t 0), none, false, []⟩,
   ⟨(some 4), .bin .sc .geq (.t 3) (.c (.int .u64 4294967296)), none, false, []⟩] none)
 (.cond (.t 4) (.seq (.ops [⟨(some 5), .mv (.t 0), none, false, []⟩,
   ⟨(some 6), .bin .sc .shr (.t 5) (.c (.int .u64 32)), none, false, []⟩,
   ⟨(some 0), .mv (.t 6), none, false, []⟩] none)
 (.ops [⟨(some 2), .mv (.c (.int .i64 32)), none, false, []⟩] none)) .skip))
 (.seq (.seq (.ops [⟨(some 7), .mv (.t 0), none, false, []⟩,
   ⟨(some 8), .bin .sc .geq (.t 7) (.c (.int .u64 65536)), none, false, []⟩] none)
 (.cond (.t 8) (.seq (.ops [⟨(some 9), .mv (.t 0), none, false, []⟩,
   ⟨(some 10), .bin .sc .shr (.t 9) (.c (.int .u64 16)), none, false, []⟩,
   ⟨(some 0), .mv (.t 10), none, false, []⟩] none)
 (.ops [⟨(some 11), .mv (.t 2), none, false, []⟩,
   ⟨(some 12), .bin .sc .add (.t 11) (.c (.int .i64 16)), none, false, []⟩,
   ⟨(some 2), .mv (.t 12), none, false, []⟩] none)) .skip))
 (.seq (.seq (.ops [⟨(some 13), .mv (.t 0), none, false, []⟩,
   ⟨(some 14), .bin .sc .geq (.t 13) (.c (.int .u64 256)), none, false, []⟩] none)
 (.cond (.t 14) (.seq (.ops [⟨(some 15), .mv (.t 0), none, false, []⟩,
   ⟨(some 16), .bin .sc .shr (.t 15) (.c (.int .u64 8)), none, false, []⟩,
   ⟨(some 0), .mv (.t 16), none, false, []⟩] none)
 (.ops [⟨(some 17), .mv (.t 2), none, false, []⟩,
   ⟨(some 18), .bin .sc .add (.t 17) (.c (.int .i64 8)), none, false, []⟩,
   ⟨(some 2), .mv (.t 18), none, false, []⟩] none)) .skip))
 (.seq (.ops [⟨(some 19), .mv (.t 2), none, false, []⟩,
   ⟨(some 20), .mv (.t 0), none, false, []⟩,
   ⟨(some 21), .cint .u8 (.t 20), none, false, []⟩,
   ⟨(some 22), .index (.c (.str [0, 1, 2, 2, 3, 3, 3, 3, 4, 4, 4, 4, 4, 4, 4, 4, 5, 5, 5, 5, 5, 5, 5, 5, 5, 5, 5, 5, 5, 5, 5, 5, 6, 6, 6, 6, 6, 6, 6, 6, 6, 6, 6, 6, 6, 6, 6, 6, 6, 6, 6, 6, 6, 6, 6, 6, 6, 6, 6, 6, 6, 6, 6, 6, 7, 7, 7, 7, 7, 7, 7, 7, 7, 7, 7, 7, 7, 7, 7, 7, 7, 7, 7, 7, 7, 7, 7, 7, 7, 7, 7, 7, 7, 7, 7, 7, 7, 7, 7, 7, 7, 7, 7, 7, 7, 7, 7, 7, 7, 7, 7, 7, 7, 7, 7, 7, 7, 7, 7, 7, 7, 7, 7, 7, 7, 7, 7, 7, 8, 8, 8, 8, 8, 8, 8, 8, 8, 8, 8, 8, 8, 8, 8, 8, 8, 8, 8, 8, 8, 8, 8, 8, 8, 8, 8, 8, 8, 8, 8, 8, 8, 8, 8, 8, 8, 8, 8, 8, 8, 8, 8, 8, 8, 8, 8, 8, 8, 8, 8, 8, 8, 8, 8, 8, 8, 8, 8, 8, 8, 8, 8, 8, 8, 8, 8, 8, 8, 8, 8, 8, 8, 8, 8, 8, 8, 8, 8, 8, 8, 8, 8, 8, 8, 8, 8, 8, 8, 8, 8, 8, 8, 8, 8, 8, 8, 8, 8, 8, 8, 8, 8, 8, 8, 8, 8, 8, 8, 8, 8, 8, 8, 8, 8, 8, 8, 8, 8, 8, 8, 8, 8, 8, 8, 8, 8, 8])) (.t 21), none, false, []⟩,
   ⟨(some 23), .cint .i64 (.t 22), none, false, []⟩,
   ⟨(some 24), .bin .sc .add (.t 19) (.t 23), none, false, []⟩,
   ⟨(some 2), .mv (.t 24), none, false, []⟩] none)
 .ret))))) }
/- slices.pdqsortOrdered[string] -/
def f109 : AFunc :=
 { np := 4, ntmps := 134, results := [], frz := false, body :=
 (.seq (.ops [⟨(some 8), .mv (.c (.bool true)), none, false, []⟩] none)
 (.seq (.ops [⟨(some 9), .mv (.c (.bool true)), none, false, []⟩] none)
 (.block 0 (.loop (.block 1 (.seq (.ops [⟨(some 19), .mv (.t 2), none, false, []⟩,
   ⟨(some 20), .mv (.t 1), none, false, []⟩,
   ⟨(some 21), .bin .sc .sub (.t 19) (.t 20), none, false, []⟩,
   ⟨(some 10), .mv (.t 21), none, false, []⟩] none)
 (.seq (.seq (.ops [⟨(some 22), .mv (.t 10), none, false, []⟩,
   ⟨(some 23), .bin .sc .leq (.t 22) (.c (.int .i64 12)), none, false, []⟩] none)
 (.cond (.t 23) (.seq (.ops [⟨(some 24), .mv (.t 0), none, false, []⟩,
   ⟨(some 25), .mv (.t 1), none, false, []⟩,
   ⟨(some 26), .mv (.t 2), none, false, []⟩,
   ⟨(some 27), .call (.c (.func 120 [] [])) [(.t 24), (.t 25), (.t 26)], none, false, []⟩] none)
 .ret) .skip))
 (.seq (.seq (.ops [⟨(some 28), .mv (.t 3), none, false, []⟩,
   ⟨(some 29), .bin .sc .eql (.t 28) (.c (.int .i64 0)), none, false, []⟩] none)
 (.cond (.t 29) (.seq (.ops [⟨(some 30), .mv (.t 0), none, false, []⟩,
   ⟨(some 31), .mv (.t 1), none, false, []⟩,
   ⟨(some 32), .mv (.t 2), none, false, []⟩,
   ⟨(some 33), .call (.c (.func 121 [] [])) [(.t 30), (.t 31), (.t 32)], none, false, []⟩] none)
 .ret) .skip))
 (.seq (.seq (.ops [⟨(some 34), .mv (.t 8), none, false, []⟩,
   ⟨(some 35), .not (.t 34), none, false, []⟩] none)
 (.cond (.t 35) (.seq (.ops [⟨(some 36), .mv (.t 0), none, false, []⟩,
   ⟨(some 37), .mv (.t 1), none, false, []⟩,
   ⟨(some 38), .mv (.t 2), none, false, []⟩,
   ⟨(some 39), .call (.c (.func 122 [] [])) [(.t 36), (.t 37), (.t 38)], none, false, []⟩] none)
 (.ops [⟨(some 40), .mv (.t 3), none, false, []⟩,
   ⟨(some 41), .bin .sc .sub (.t 40) (.c (.int .i64 1)), none, false, []⟩,
   ⟨(some 3), .mv (.t 41), none, false, []⟩] none)) .skip))
 (.seq (.ops [⟨(some 43), .mv (.t 0), none, false, []⟩,
   ⟨(some 44), .mv (.t 1), none, false, []⟩,
   ⟨(some 45), .mv (.t 2), none, false, []⟩,
   ⟨(some 46), .call (.c (.func 123 [] [])) [(.t 43), (.t 44), (.t 45)], none, false, []⟩,
   ⟨(some 42), .mv (.t 46), none, false, []⟩,
   ⟨(some 47), .extract 0 (.t 42), none, false, []⟩,
   ⟨(some 48), .extract 1 (.t 42), none, false, []⟩,
   ⟨(some 11), .mv (.t 47), none, false, []⟩,
   ⟨(some 12), .mv (.t 48), none, false, []⟩] none)
 (.seq (.seq (.ops [⟨(some 49), .mv (.t 12), none, false, []⟩,
   ⟨(some 50), .bin .sc .eql (.t 49) (.c (.int .i64 2)), none, false, []⟩] none)
 (.cond (.t 50) (.seq (.ops [⟨(some 51), .mv (.t 0), none, false, []⟩,
   ⟨(some 52), .mv (.t 1), none, false, []⟩,
   ⟨(some 53), .mv (.t 2), none, false, []⟩,
   ⟨(some 54), .call (.c (.func 124 [] [])) [(.t 51), (.t 52), (.t 53)], none, false, []⟩] none)
 (.seq (.ops [⟨(some 55), .mv (.t 2), none, false, []⟩,
   ⟨(some 56), .bin .sc .sub (.t 55) (.c (.int .i64 1)), none, false, []⟩,
   ⟨(some 57), .mv (.t 11), none, false, []⟩,
   ⟨(some 58), .mv (.t 1), none, false, []⟩,
   ⟨(some 59), .bin .sc .sub (.t 57) (.t 58), none, false, []⟩,
   ⟨(some 60), .bin .sc .sub (.t 56) (.t 59), none, false, []⟩,
   ⟨(some 11), .mv (.t 60), none, false, []⟩] none)
 (.ops [⟨(some 12), .mv (.c (.int .i64 1)), none, false, []⟩] none))) .skip))
 (.seq (.seq (.ops [⟨(some 61), .mv (.t 8), none, false, []⟩,
   ⟨(some 62), .mv (.t 61), none, false, []⟩,
   ⟨(some 63), .mv (.t 9), (some (62, true)), false, []⟩,
   ⟨(some 64), .pick (.t 62) (.t 63) (.c (.bool false)), none, false, []⟩,
   ⟨(some 65), .mv (.t 64), none, false, []⟩,
   ⟨(some 66), .mv (.t 12), (some (65, true)), false, []⟩,
   ⟨(some 67), .bin .sc .eql (.t 66) (.c (.int .i64 1)), (some (65, true)), false, []⟩,
   ⟨(some 68), .pick (.t 65) (.t 67) (.c (.bool false)), none, false, []⟩] none)
 (.cond (.t 68) (.seq (.ops [⟨(some 69), .mv (.t 0), none, false, []⟩,
   ⟨(some 70), .mv (.t 1), none, false, []⟩,
   ⟨(some 71), .mv (.t 2), none, false, []⟩,
   ⟨(some 72), .call (.c (.func 125 [] [])) [(.t 69), (.t 70), (.t 71)], none, false, []⟩] none)
 (.cond (.t 72) .ret .skip)) .skip))
 (.seq (.seq (.ops [⟨(some 73), .mv (.t 1), none, false, []⟩,
   ⟨(some 74), .bin .sc .gtr (.t 73) (.c (.int .i64 0)), none, false, []⟩,
   ⟨(some 75), .mv (.t 74), none, false, []⟩,
   ⟨(some 76), .mv (.t 0), (some (75, true)), false, []⟩,
   ⟨(some 77), .mv (.t 1), (some (75, true)), false, []⟩,
   ⟨(some 78), .bin .sc .sub (.t 77) (.c (.int .i64 1)), (some (75, true)), false, []⟩,
   ⟨(some 79), .iaddr none 1 (.t 76) (.t 78), (some (75, true)), false, []⟩,
   ⟨(some 80), .load false 1 (.t 79), (some (75, true)), false, []⟩,
   ⟨(some 81), .mv (.t 0), (some (75, true)), false, []⟩,
   ⟨(some 82), .mv (.t 11), (some (75, true)), false, []⟩,
   ⟨(some 83), .iaddr none 1 (.t 81) (.t 82), (some (75, true)), false, []⟩,
   ⟨(some 84), .load false 1 (.t 83), (some (75, true)), false, []⟩,
   ⟨(some 85), .call (.c (.func 126 [] [])) [(.t 80), (.t 84)], (some (75, true)), false, []⟩,
   ⟨(some 86), .not (.t 85), (some (75, true)), false, []⟩,
   ⟨(some 87), .pick (.t 75) (.t 86) (.c (.bool false)), none, false, []⟩] (some [[], [0], [0, 1], [0, 1, 2], [0, 1, 2], [0, 1, 2, 4], [0, 1, 2, 3, 4, 5], [0, 1, 2, 3, 4, 5, 6], [0, 1, 2], [0, 1, 2], [0, 1, 2, 8, 9], [0, 1, 2, 8, 9, 10], [0, 1, 2, 3, 4, 5, 6, 7, 8, 9, 10, 11], [0, 1, 2, 3, 4, 5, 6, 7, 8, 9, 10, 11, 12], [0, 1, 2, 3, 4, 5, 6, 7, 8, 9, 10, 11, 12, 13]]))
 (.cond (.t 87) (.seq (.ops [⟨(some 88), .mv (.t 0), none, false, []⟩,
   ⟨(some 89), .mv (.t 1), none, false, []⟩,
   ⟨(some 90), .mv (.t 2), none, false, []⟩,
   ⟨(some 91), .mv (.t 11), none, false, []⟩,
   ⟨(some 92), .call (.c (.func 127 [] [])) [(.t 88), (.t 89), (.t 90), (.t 91)], none, false, []⟩,
   ⟨(some 13), .mv (.t 92), none, false, []⟩] none)
 (.seq (.ops [⟨(some 93), .mv (.t 13), none, false, []⟩,
   ⟨(some 1), .mv (.t 93), none, false, []⟩] none)
 (.exit 1))) .skip))
 (.seq (.ops [⟨(some 95), .mv (.t 0), none, false, []⟩,
   ⟨(some 96), .mv (.t 1), none, false, []⟩,
   ⟨(some 97), .mv (.t 2), none, false, []⟩,
   ⟨(some 98), .mv (.t 11), none, false, []⟩,
   ⟨(some 99), .call (.c (.func 128 [] [])) [(.t 95), (.t 96), (.t 97), (.t 98)], none, false, []⟩,
   ⟨(some 94), .mv (.t 99), none, false, []⟩,
   ⟨(some 100), .extract 0 (.t 94), none, false, []⟩,
   ⟨(some 101), .extract 1 (.t 94), none, false, []⟩,
   ⟨(some 14), .mv (.t 100), none, false, []⟩,
   ⟨(some 15), .mv (.t 101), none, false, []⟩] none)
 (.seq (.ops [⟨(some 102), .mv (.t 15), none, false, []⟩,
   ⟨(some 9), .mv (.t 102), none, false, []⟩] none)
 (.seq (.ops [⟨(some 103), .mv (.t 14), none, false, []⟩,
   ⟨(some 104), .mv (.t 1), none, false, []⟩,
   ⟨(some 105), .bin .sc .sub (.t 103) (.t 104), none, false, []⟩,
   ⟨(some 106), .mv (.t 2), none, false, []⟩,
   ⟨(some 107), .mv (.t 14), none, false, []⟩,
   ⟨(some 108), .bin .sc .sub (.t 106) (.t 107), none, false, []⟩,
   ⟨(some 16), .mv (.t 105), none, false, []⟩,
   ⟨(some 17), .mv (.t 108), none, false, []⟩] none)
 (.seq (.ops [⟨(some 109), .mv (.t 10), none, false, []⟩,
   ⟨(some 110), .bin .sc .quo (.t 109) (.c (.int .i64 8)), none, false, []⟩,
   ⟨(some 18), .mv (.t 110), none, false, []⟩] none)
 (.seq (.ops [⟨(some 111), .mv (.t 16), none, false, []⟩,
   ⟨(some 112), .mv (.t 17), none, false, []⟩,
   ⟨(some 113), .bin .sc .lss (.t 111) (.t 112), none, false, []⟩] none)
 (.cond (.t 113) (.seq (.ops [⟨(some 114), .mv (.t 16), none, false, []⟩,
   ⟨(some 115), .mv (.t 18), none, false, []⟩,
   ⟨(some 116), .bin .sc .geq (.t 114) (.t 115), none, false, []⟩,
   ⟨(some 8), .mv (.t 116), none, false, []⟩] none)
 (.seq (.ops [⟨(some 117), .mv (.t 0), none, false, []⟩,
   ⟨(some 118), .mv (.t 1), none, false, []⟩,
   ⟨(some 119), .mv (.t 14), none, false, []⟩,
   ⟨(some 120), .mv (.t 3), none, false, []⟩,
   ⟨(some 121), .call (.c (.func 109 [] [])) [(.t 117), (.t 118), (.t 119), (.t 120)], none, false, []⟩] none)
 (.ops [⟨(some 122), .mv (.t 14), none, false, []⟩,
   ⟨(some 123), .bin .sc .add (.t 122) (.c (.int .i64 1)), none, false, []⟩,
   ⟨(some 1), .mv (.t 123), none, false, []⟩] none))) (.seq (.ops [⟨(some 124), .mv (.t 17), none, false, []⟩,
   ⟨(some 125), .mv (.t 18), none, false, []⟩,
   ⟨(some 126), .bin .sc .geq (.t 124) (.t 125), none, false, []⟩,
   ⟨(some 8), .mv (.t 126), none, false, []⟩] none)
 (.seq (.ops [⟨(some 127), .mv (.t 0), none, false, []⟩,
   ⟨(some 128), .mv (.t 14), none, false, []⟩,
   ⟨(some 129), .bin .sc .add (.t 128) (.c (.int .i64 1)), none, false, []⟩,
   ⟨(some 130), .mv (.t 2), none, false, []⟩,
   ⟨(some 131), .mv (.t 3), none, false, []⟩,
   ⟨(some 132), .call (.c (.func 109 [] [])) [(.t 127), (.t 129), (.t 130), (.t 131)], none, false, []⟩] none)
 (.ops [⟨(some 133), .mv (.t 14), none, false, []⟩,
   ⟨(some 2), .mv (.t 133), none, false, []⟩] none)))))))))))))))))))))) }
/- slices.IndexFunc[[]api.Data,api.Data] -/
def f110 : AFunc :=
 { np := 2, ntmps := 19, results := [.tmp 4], frz := false, body :=
 (.seq (.ops [⟨(some 4), .mv (.c (.int .i64 0)), none, false, []⟩] none)
 (.seq (.seq (.ops [⟨(some 6), .mv (.t 0), none, false, []⟩,
   ⟨(some 7), .len 1 (.t 6), none, false, []⟩,
   ⟨(some 8), .mv (.c (.int .i64 0)), none, false, []⟩] none)
 (.block 0 (.loop (.seq (.ops [⟨(some 9), .bin .sc .lss (.t 8) (.t 7), none, false, []⟩] none)
 (.seq (.cond (.t 9) .skip (.exit 0))
 (.seq (.block 1 (.seq (.ops [⟨(some 10), .mv (.t 8), none, false, []⟩,
   ⟨(some 5), .mv (.t 10), none, false, []⟩] none)
 (.seq (.ops [⟨(some 11), .mv (.t 1), none, false, []⟩,
   ⟨(some 12), .mv (.t 0), none, false, []⟩,
   ⟨(some 13), .mv (.t 5), none, false, []⟩,
   ⟨(some 14), .iaddr none 4 (.t 12) (.t 13), none, false, []⟩,
   ⟨(some 15), .load true 4 (.t 14), none, false, []⟩,
   ⟨(some 16), .call (.t 11) [(.t 15)], none, false, []⟩] none)
 (.cond (.t 16) (.seq (.ops [⟨(some 17), .mv (.t 5), none, false, []⟩,
   ⟨(some 4), .mv (.t 17), none, false, []⟩] none)
 .ret) .skip))))
 (.ops [⟨(some 18), .bin .sc .add (.t 8) (.c (.int .i64 1)), none, false, []⟩,
   ⟨(some 8), .mv (.t 18), none, false, []⟩] none)))))))
 (.seq (.ops [⟨(some 4), .mv (.c (.int .i64 (-1))), none, false, []⟩] none)
 .ret))) }
/- data.arity$1 -/
def f111 : AFunc :=
 { np := 2, ntmps := 8, results := [.tmp 3], frz := false, body :=
 (.seq (.ops [⟨(some 2), .box true (.t 0), none, false, []⟩,
   ⟨(some 3), .mv (.c (.bool false)), none, false, []⟩] none)
 (.seq (.ops [⟨(some 4), .faddr 0 (.t 2), none, false, []⟩,
   ⟨(some 5), .load false 1 (.t 4), none, false, []⟩,
   ⟨(some 6), .load false 1 (.t 1), none, false, []⟩,
   ⟨(some 7), .bin .sc .eql (.t 5) (.t 6), none, false, []⟩,
   ⟨(some 3), .mv (.t 7), none, false, []⟩] none)
 .ret)) }
/- slices.nextPowerOfTwo -/
def f115 : AFunc :=
 { np := 1, ntmps := 7, results := [.tmp 2], frz := false, body :=
 (.seq (.ops [⟨(some 2), .mv (.c (.int .u64 0)), none, false, []⟩] none)
 (.seq (.ops [⟨(some 3), .mv (.t 0), none, false, []⟩,
   ⟨(some 4), .cint .u64 (.t 3), none, false, []⟩,
   ⟨(some 5), .call (.c (.func 83 [] [])) [(.t 4)], none, false, []⟩,
   ⟨(some 6), .bin .sc .shl (.c (.int .u64 1)) (.t 5), none, false, []⟩,
   ⟨(some 2), .mv (.t 6), none, false, []⟩] none)
 .ret)) }
/- (*slices.xorshift).Next -/
def f116 : AFunc :=
 { np := 1, ntmps := 33, results := [.tmp 2], frz := false, body :=
 (.seq (.ops [⟨(some 2), .mv (.c (.int .u64 0)), none, false, []⟩] none)
 (.seq (.ops [⟨(some 3), .mv (.t 0), none, false, []⟩,
   ⟨(some 4), .nilck (.t 3), none, false, []⟩,
   ⟨(some 5), .load false 1 (.t 4), none, false, []⟩,
   ⟨(some 6), .mv (.t 0), none, false, []⟩,
   ⟨(some 7), .nilck (.t 6), none, false, []⟩,
   ⟨(some 8), .load false 1 (.t 7), none, false, []⟩,
   ⟨(some 9), .bin .sc .shl (.t 8) (.c (.int .u64 13)), none, false, []⟩,
   ⟨(some 10), .bin .sc .xor (.t 5) (.t 9), none, false, []⟩,
   ⟨(some 11), .nilck (.t 3), none, false, []⟩,
   ⟨none, .store 1 (.t 11) (.t 10), none, false, []⟩] (some [[], [0], [0, 1], [], [3], [3, 4], [3, 4, 5], [0, 1, 2, 3, 4, 5, 6], [0, 1, 2, 3, 4, 5, 6, 7], [0, 1, 2, 3, 4, 5, 6, 7, 8]]))
 (.seq (.ops [⟨(some 12), .mv (.t 0), none, false, []⟩,
   ⟨(some 13), .nilck (.t 12), none, false, []⟩,
   ⟨(some 14), .load false 1 (.t 13), none, false, []⟩,
   ⟨(some 15), .mv (.t 0), none, false, []⟩,
   ⟨(some 16), .nilck (.t 15), none, false, []⟩,
   ⟨(some 17), .load false 1 (.t 16), none, false, []⟩,
   ⟨(some 18), .bin .sc .shr (.t 17) (.c (.int .u64 7)), none, false, []⟩,
   ⟨(some 19), .bin .sc .xor (.t 14) (.t 18), none, false, []⟩,
   ⟨(some 20), .nilck (.t 12), none, false, []⟩,
   ⟨none, .store 1 (.t 20) (.t 19), none, false, []⟩] (some [[], [0], [0, 1], [], [3], [3, 4], [3, 4, 5], [0, 1, 2, 3, 4, 5, 6], [0, 1, 2, 3, 4, 5, 6, 7], [0, 1, 2, 3, 4, 5, 6, 7, 8]]))
 (.seq (.ops [⟨(some 21), .mv (.t 0), none, false, []⟩,
   ⟨(some 22), .nilck (.t 21), none, false, []⟩,
   ⟨(some 23), .load false 1 (.t 22), none, false, []⟩,
   ⟨(some 24), .mv (.t 0), none, false, []⟩,
   ⟨(some 25), .nilck (.t 24), none, false, []⟩,
   ⟨(some 26), .load false 1 (.t 25), none, false, []⟩,
   ⟨(some 27), .bin .sc .shl (.t 26) (.c (.int .u64 17)), none, false, []⟩,
   ⟨(some 28), .bin .sc .xor (.t 23) (.t 27), none, false, []⟩,
   ⟨(some 29), .nilck (.t 21), none, false, []⟩,
   ⟨none, .store 1 (.t 29) (.t 28), none, false, []⟩] (some [[], [0], [0, 1], [], [3], [3, 4], [3, 4, 5], [0, 1, 2, 3, 4, 5, 6], [0, 1, 2, 3, 4, 5, 6, 7], [0, 1, 2, 3, 4, 5, 6, 7, 8]]))
 (.seq (.ops [⟨(some 30), .mv (.t 0), none, false, []⟩,
   ⟨(some 31), .nilck (.t 30), none, false, []⟩,
   ⟨(some 32), .load false 1 (.t 31), none, false, []⟩,
   ⟨(some 2), .mv (.t 32), none, false, []⟩] none)
 .ret))))) }
/- slices.insertionSortOrdered[string] -/
def f120 : AFunc :=
 { np := 3, ntmps := 49, results := [], frz := false, body :=
 (.seq (.ops [⟨(some 8), .mv (.t 1), none, false, []⟩,
   ⟨(some 9), .bin .sc .add (.t 8) (.c (.int .i64 1)), none, false, []⟩,
   ⟨(some 6), .mv (.t 9), none, false, []⟩] none)
 (.block 0 (.loop (.seq (.seq (.ops [⟨(some 10), .mv (.t 6), none, false, []⟩,
   ⟨(some 11), .mv (.t 2), none, false, []⟩,
   ⟨(some 12), .bin .sc .lss (.t 10) (.t 11), none, false, []⟩] none)
 (.cond (.t 12) .skip (.exit 0)))
 (.seq (.block 1 (.seq (.ops [⟨(some 15), .mv (.t 6), none, false, []⟩,
   ⟨(some 7), .mv (.t 15), none, false, []⟩] none)
 (.block 2 (.loop (.seq (.seq (.ops [⟨(some 16), .mv (.t 7), none, false, []⟩,
   ⟨(some 17), .mv (.t 1), none, false, []⟩,
   ⟨(some 18), .bin .sc .gtr (.t 16) (.t 17), none, false, []⟩,
   ⟨(some 19), .mv (.t 18), none, false, []⟩,
   ⟨(some 20), .mv (.t 0), (some (19, true)), false, []⟩,
   ⟨(some 21), .mv (.t 7), (some (19, true)), false, []⟩,
   ⟨(some 22), .iaddr none 1 (.t 20) (.t 21), (some (19, true)), false, []⟩,
   ⟨(some 23), .load false 1 (.t 22), (some (19, true)), false, []⟩,
   ⟨(some 24), .mv (.t 0), (some (19, true)), false, []⟩,
   ⟨(some 25), .mv (.t 7), (some (19, true)), false, []⟩,
   ⟨(some 26), .bin .sc .sub (.t 25) (.c (.int .i64 1)), (some (19, true)), false, []⟩,
   ⟨(some 27), .iaddr none 1 (.t 24) (.t 26), (some (19, true)), false, []⟩,
   ⟨(some 28), .load false 1 (.t 27), (some (19, true)), false, []⟩,
   ⟨(some 29), .call (.c (.func 126 [] [])) [(.t 23), (.t 28)], (some (19, true)), false, []⟩,
   ⟨(some 30), .pick (.t 19) (.t 29) (.c (.bool false)), none, false, []⟩] (some [[], [], [0, 1], [0, 1, 2], [0, 1, 2, 3], [0, 1, 2, 3], [0, 1, 2, 3, 4, 5], [0, 1, 2, 3, 4, 5, 6], [0, 1, 2, 3], [0, 1, 2, 3], [0, 1, 2, 3, 9], [0, 1, 2, 3, 8, 9, 10], [0, 1, 2, 3, 8, 9, 10, 11], [0, 1, 2, 3, 4, 5, 6, 7, 8, 9, 10, 11, 12], [0, 1, 2, 3, 4, 5, 6, 7, 8, 9, 10, 11, 12, 13]]))
 (.cond (.t 30) .skip (.exit 2)))
 (.seq (.block 3 (.ops [⟨(some 33), .mv (.t 0), none, false, []⟩,
   ⟨(some 34), .mv (.t 7), none, false, []⟩,
   ⟨(some 35), .mv (.t 0), none, false, []⟩,
   ⟨(some 36), .mv (.t 7), none, false, []⟩,
   ⟨(some 37), .bin .sc .sub (.t 36) (.c (.int .i64 1)), none, false, []⟩,
   ⟨(some 38), .mv (.t 0), none, false, []⟩,
   ⟨(some 39), .mv (.t 7), none, false, []⟩,
   ⟨(some 40), .bin .sc .sub (.t 39) (.c (.int .i64 1)), none, false, []⟩,
   ⟨(some 41), .iaddr none 1 (.t 38) (.t 40), none, false, []⟩,
   ⟨(some 42), .load false 1 (.t 41), none, false, []⟩,
   ⟨(some 43), .mv (.t 0), none, false, []⟩,
   ⟨(some 44), .mv (.t 7), none, false, []⟩,
   ⟨(some 45), .iaddr none 1 (.t 43) (.t 44), none, false, []⟩,
   ⟨(some 46), .load false 1 (.t 45), none, false, []⟩,
   ⟨(some 47), .iaddr none 1 (.t 33) (.t 34), none, false, []⟩,
   ⟨none, .store 1 (.t 47) (.t 42), none, false, []⟩,
   ⟨(some 48), .iaddr none 1 (.t 35) (.t 37), none, false, []⟩,
   ⟨none, .store 1 (.t 48) (.t 46), none, false, []⟩] (some [[], [], [], [], [3], [], [], [6], [5, 6, 7], [5, 6, 7, 8], [], [], [10, 11], [10, 11, 12], [0, 1, 5, 6, 7, 8, 9, 10, 11, 12, 13], [0, 1, 5, 6, 7, 8, 9, 10, 11, 12, 13, 14], [0, 1, 2, 3, 4, 5, 6, 7, 8, 9, 10, 11, 12, 13, 14, 15], [0, 1, 2, 3, 4, 5, 6, 7, 8, 9, 10, 11, 12, 13, 14, 15, 16]])))
 (.ops [⟨(some 31), .mv (.t 7), none, false, []⟩,
   ⟨(some 32), .bin .sc .sub (.t 31) (.c (.int .i64 1)), none, false, []⟩,
   ⟨(some 7), .mv (.t 32), none, false, []⟩] none)))))))
 (.ops [⟨(some 13), .mv (.t 6), none, false, []⟩,
   ⟨(some 14), .bin .sc .add (.t 13) (.c (.int .i64 1)), none, false, []⟩,
   ⟨(some 6), .mv (.t 14), none, false, []⟩] none)))))) }
/- slices.heapSortOrdered[string] -/
def f121 : AFunc :=
 { np := 3, ntmps := 56, results := [], frz := false, body :=
 (.seq (.ops [⟨(some 11), .mv (.t 1), none, false, []⟩,
   ⟨(some 6), .mv (.t 11), none, false, []⟩] none)
 (.seq (.ops [⟨(some 7), .mv (.c (.int .i64 0)), none, false, []⟩] none)
 (.seq (.ops [⟨(some 12), .mv (.t 2), none, false, []⟩,
   ⟨(some 13), .mv (.t 1), none, false, []⟩,
   ⟨(some 14), .bin .sc .sub (.t 12) (.t 13), none, false, []⟩,
   ⟨(some 8), .mv (.t 14), none, false, []⟩] none)
 (.seq (.seq (.ops [⟨(some 15), .mv (.t 8), none, false, []⟩,
   ⟨(some 16), .bin .sc .sub (.t 15) (.c (.int .i64 1)), none, false, []⟩,
   ⟨(some 17), .bin .sc .quo (.t 16) (.c (.int .i64 2)), none, false, []⟩,
   ⟨(some 9), .mv (.t 17), none, false, []⟩] none)
 (.block 0 (.loop (.seq (.seq (.ops [⟨(some 18), .mv (.t 9), none, false, []⟩,
   ⟨(some 19), .bin .sc .geq (.t 18) (.c (.int .i64 0)), none, false, []⟩] none)
 (.cond (.t 19) .skip (.exit 0)))
 (.seq (.block 1 (.ops [⟨(some 22), .mv (.t 0), none, false, []⟩,
   ⟨(some 23), .mv (.t 9), none, false, []⟩,
   ⟨(some 24), .mv (.t 8), none, false, []⟩,
   ⟨(some 25), .mv (.t 6), none, false, []⟩,
   ⟨(some 26), .call (.c (.func 131 [] [])) [(.t 22), (.t 23), (.t 24), (.t 25)], none, false, []⟩] none))
 (.ops [⟨(some 20), .mv (.t 9), none, false, []⟩,
   ⟨(some 21), .bin .sc .sub (.t 20) (.c (.int .i64 1)), none, false, []⟩,
   ⟨(some 9), .mv (.t 21), none, false, []⟩] none))))))
 (.seq (.ops [⟨(some 27), .mv (.t 8), none, false, []⟩,
   ⟨(some 28), .bin .sc .sub (.t 27) (.c (.int .i64 1)), none, false, []⟩,
   ⟨(some 10), .mv (.t 28), none, false, []⟩] none)
 (.block 2 (.loop (.seq (.seq (.ops [⟨(some 29), .mv (.t 10), none, false, []⟩,
   ⟨(some 30), .bin .sc .geq (.t 29) (.c (.int .i64 0)), none, false, []⟩] none)
 (.cond (.t 30) .skip (.exit 2)))
 (.seq (.block 3 (.seq (.ops [⟨(some 33), .mv (.t 0), none, false, []⟩,
   ⟨(some 34), .mv (.t 6), none, false, []⟩,
   ⟨(some 35), .mv (.t 0), none, false, []⟩,
   ⟨(some 36), .mv (.t 6), none, false, []⟩,
   ⟨(some 37), .mv (.t 10), none, false, []⟩,
   ⟨(some 38), .bin .sc .add (.t 36) (.t 37), none, false, []⟩,
   ⟨(some 39), .mv (.t 0), none, false, []⟩,
   ⟨(some 40), .mv (.t 6), none, false, []⟩,
   ⟨(some 41), .mv (.t 10), none, false, []⟩,
   ⟨(some 42), .bin .sc .add (.t 40) (.t 41), none, false, []⟩,
   ⟨(some 43), .iaddr none 1 (.t 39) (.t 42), none, false, []⟩,
   ⟨(some 44), .load false 1 (.t 43), none, false, []⟩,
   ⟨(some 45), .mv (.t 0), none, false, []⟩,
   ⟨(some 46), .mv (.t 6), none, false, []⟩,
   ⟨(some 47), .iaddr none 1 (.t 45) (.t 46), none, false, []⟩,
   ⟨(some 48), .load false 1 (.t 47), none, false, []⟩,
   ⟨(some 49), .iaddr none 1 (.t 33) (.t 34), none, false, []⟩,
   ⟨none, .store 1 (.t 49) (.t 44), none, false, []⟩,
   ⟨(some 50), .iaddr none 1 (.t 35) (.t 38), none, false, []⟩,
   ⟨none, .store 1 (.t 50) (.t 48), none, false, []⟩] (some [[], [], [], [], [], [3, 4], [], [], [], [7, 8], [6, 7, 8, 9], [6, 7, 8, 9, 10], [], [], [12, 13], [12, 13, 14], [0, 1, 6, 7, 8, 9, 10, 11, 12, 13, 14, 15], [0, 1, 6, 7, 8, 9, 10, 11, 12, 13, 14, 15, 16], [0, 1, 2, 3, 4, 5, 6, 7, 8, 9, 10, 11, 12, 13, 14, 15, 16, 17], [0, 1, 2, 3, 4, 5, 6, 7, 8, 9, 10, 11, 12, 13, 14, 15, 16, 17, 18]]))
 (.ops [⟨(some 51), .mv (.t 0), none, false, []⟩,
   ⟨(some 52), .mv (.t 7), none, false, []⟩,
   ⟨(some 53), .mv (.t 10), none, false, []⟩,
   ⟨(some 54), .mv (.t 6), none, false, []⟩,
   ⟨(some 55), .call (.c (.func 131 [] [])) [(.t 51), (.t 52), (.t 53), (.t 54)], none, false, []⟩] none)))
 (.ops [⟨(some 31), .mv (.t 10), none, false, []⟩,
   ⟨(some 32), .bin .sc .sub (.t 31) (.c (.int .i64 1)), none, false, []⟩,
   ⟨(some 10), .mv (.t 32), none, false, []⟩] none)))))))))) }
/- slices.breakPatternsOrdered[string] -/
def f122 : AFunc :=
 { np := 3, ntmps := 65, results := [], frz := false, body :=
 (.seq (.ops [⟨(some 11), .mv (.t 2), none, false, []⟩,
   ⟨(some 12), .mv (.t 1), none, false, []⟩,
   ⟨(some 13), .bin .sc .sub (.t 11) (.t 12), none, false, []⟩,
   ⟨(some 6), .mv (.t 13), none, false, []⟩] none)
 (.seq (.ops [⟨(some 14), .mv (.t 6), none, false, []⟩,
   ⟨(some 15), .bin .sc .geq (.t 14) (.c (.int .i64 8)), none, false, []⟩] none)
 (.cond (.t 15) (.seq (.ops [⟨(some 16), .mv (.t 6), none, false, []⟩,
   ⟨(some 17), .cint .u64 (.t 16), none, false, []⟩,
   ⟨(some 7), .alloc false [.int .u64 0], none, false, []⟩,
   ⟨none, .store 1 (.t 7) (.t 17), none, false, []⟩] none)
 (.seq (.ops [⟨(some 18), .mv (.t 6), none, false, []⟩,
   ⟨(some 19), .call (.c (.func 115 [] [])) [(.t 18)], none, false, []⟩,
   ⟨(some 8), .mv (.t 19), none, false, []⟩] none)
 (.seq (.ops [⟨(some 20), .mv (.t 1), none, false, []⟩,
   ⟨(some 21), .mv (.t 6), none, false, []⟩,
   ⟨(some 22), .bin .sc .quo (.t 21) (.c (.int .i64 4)), none, false, []⟩,
   ⟨(some 23), .bin .sc .mul (.t 22) (.c (.int .i64 2)), none, false, []⟩,
   ⟨(some 24), .bin .sc .add (.t 20) (.t 23), none, false, []⟩,
   ⟨(some 25), .bin .sc .sub (.t 24) (.c (.int .i64 1)), none, false, []⟩,
   ⟨(some 9), .mv (.t 25), none, false, []⟩] none)
 (.block 0 (.loop (.seq (.seq (.ops [⟨(some 26), .mv (.t 9), none, false, []⟩,
   ⟨(some 27), .mv (.t 1), none, false, []⟩,
   ⟨(some 28), .mv (.t 6), none, false, []⟩,
   ⟨(some 29), .bin .sc .quo (.t 28) (.c (.int .i64 4)), none, false, []⟩,
   ⟨(some 30), .bin .sc .mul (.t 29) (.c (.int .i64 2)), none, false, []⟩,
   ⟨(some 31), .bin .sc .add (.t 27) (.t 30), none, false, []⟩,
   ⟨(some 32), .bin .sc .add (.t 31) (.c (.int .i64 1)), none, false, []⟩,
   ⟨(some 33), .bin .sc .leq (.t 26) (.t 32), none, false, []⟩] none)
 (.cond (.t 33) .skip (.exit 0)))
 (.seq (.block 1 (.seq (.ops [⟨(some 36), .call (.c (.func 116 [] [])) [(.t 7)], none, false, []⟩,
   ⟨(some 37), .mv (.t 8), none, false, []⟩,
   ⟨(some 38), .bin .sc .sub (.t 37) (.c (.int .u64 1)), none, false, []⟩,
   ⟨(some 39), .bin .sc .and (.t 36) (.t 38), none, false, []⟩,
   ⟨(some 40), .cint .i64 (.t 39), none, false, []⟩,
   ⟨(some 10), .mv (.t 40), none, false, []⟩] none)
 (.seq (.seq (.ops [⟨(some 41), .mv (.t 10), none, false, []⟩,
   ⟨(some 42), .mv (.t 6), none, false, []⟩,
   ⟨(some 43), .bin .sc .geq (.t 41) (.t 42), none, false, []⟩] none)
 (.cond (.t 43) (.ops [⟨(some 44), .mv (.t 10), none, false, []⟩,
   ⟨(some 45), .mv (.t 6), none, false, []⟩,
   ⟨(some 46), .bin .sc .sub (.t 44) (.t 45), none, false, []⟩,
   ⟨(some 10), .mv (.t 46), none, false, []⟩] none) .skip))
 (.ops [⟨(some 47), .mv (.t 0), none, false, []⟩,
   ⟨(some 48), .mv (.t 9), none, false, []⟩,
   ⟨(some 49), .mv (.t 0), none, false, []⟩,
   ⟨(some 50), .mv (.t 1), none, false, []⟩,
   ⟨(some 51), .mv (.t 10), none, false, []⟩,
   ⟨(some 52), .bin .sc .add (.t 50) (.t 51), none, false, []⟩,
   ⟨(some 53), .mv (.t 0), none, false, []⟩,
   ⟨(some 54), .mv (.t 1), none, false, []⟩,
   ⟨(some 55), .mv (.t 10), none, false, []⟩,
   ⟨(some 56), .bin .sc .add (.t 54) (.t 55), none, false, []⟩,
   ⟨(some 57), .iaddr none 1 (.t 53) (.t 56), none, false, []⟩,
   ⟨(some 58), .load false 1 (.t 57), none, false, []⟩,
   ⟨(some 59), .mv (.t 0), none, false, []⟩,
   ⟨(some 60), .mv (.t 9), none, false, []⟩,
   ⟨(some 61), .iaddr none 1 (.t 59) (.t 60), none, false, []⟩,
   ⟨(some 62), .load false 1 (.t 61), none, false, []⟩,
   ⟨(some 63), .iaddr none 1 (.t 47) (.t 48), none, false, []⟩,
   ⟨none, .store 1 (.t 63) (.t 58), none, false, []⟩,
   ⟨(some 64), .iaddr none 1 (.t 49) (.t 52), none, false, []⟩,
   ⟨none, .store 1 (.t 64) (.t 62), none, false, []⟩] (some [[], [], [], [], [], [3, 4], [], [], [], [7, 8], [6, 7, 8, 9], [6, 7, 8, 9, 10], [], [], [12, 13], [12, 13, 14], [0, 1, 6, 7, 8, 9, 10, 11, 12, 13, 14, 15], [0, 1, 6, 7, 8, 9, 10, 11, 12, 13, 14, 15, 16], [0, 1, 2, 3, 4, 5, 6, 7, 8, 9, 10, 11, 12, 13, 14, 15, 16, 17], [0, 1, 2, 3, 4, 5, 6, 7, 8, 9, 10, 11, 12, 13, 14, 15, 16, 17, 18]])))))
 (.ops [⟨(some 34), .mv (.t 9), none, false, []⟩,
   ⟨(some 35), .bin .sc .add (.t 34) (.c (.int .i64 1)), none, false, []⟩,
   ⟨(some 9), .mv (.t 35), none, false, []⟩] none)))))))) .skip))) }
/- slices.choosePivotOrdered[string] -/
def f123 : AFunc :=
 { np := 3, ntmps := 57, results := [.tmp 6, .tmp 7], frz := false, body :=
 (.seq (.ops [⟨(some 6), .mv (.c (.int .i64 0)), none, false, []⟩,
   ⟨(some 7), .mv (.c (.int .i64 0)), none, false, []⟩] none)
 (.seq (.ops [⟨(some 13), .mv (.t 2), none, false, []⟩,
   ⟨(some 14), .mv (.t 1), none, false, []⟩,
   ⟨(some 15), .bin .sc .sub (.t 13) (.t 14), none, false, []⟩,
   ⟨(some 8), .mv (.t 15), none, false, []⟩] none)
 (.seq (.ops [⟨(some 9), .alloc false [.int .i64 0], none, false, []⟩] none)
 (.seq (.ops [⟨(some 16), .mv (.t 1), none, false, []⟩,
   ⟨(some 17), .mv (.t 8), none, false, []⟩,
   ⟨(some 18), .bin .sc .quo (.t 17) (.c (.int .i64 4)), none, false, []⟩,
   ⟨(some 19), .bin .sc .mul (.t 18) (.c (.int .i64 1)), none, false, []⟩,
   ⟨(some 20), .bin .sc .add (.t 16) (.t 19), none, false, []⟩,
   ⟨(some 10), .mv (.t 20), none, false, []⟩] none)
 (.seq (.ops [⟨(some 21), .mv (.t 1), none, false, []⟩,
   ⟨(some 22), .mv (.t 8), none, false, []⟩,
   ⟨(some 23), .bin .sc .quo (.t 22) (.c (.int .i64 4)), none, false, []⟩,
   ⟨(some 24), .bin .sc .mul (.t 23) (.c (.int .i64 2)), none, false, []⟩,
   ⟨(some 25), .bin .sc .add (.t 21) (.t 24), none, false, []⟩,
   ⟨(some 11), .mv (.t 25), none, false, []⟩] none)
 (.seq (.ops [⟨(some 26), .mv (.t 1), none, false, []⟩,
   ⟨(some 27), .mv (.t 8), none, false, []⟩,
   ⟨(some 28), .bin .sc .quo (.t 27) (.c (.int .i64 4)), none, false, []⟩,
   ⟨(some 29), .bin .sc .mul (.t 28) (.c (.int .i64 3)), none, false, []⟩,
   ⟨(some 30), .bin .sc .add (.t 26) (.t 29), none, false, []⟩,
   ⟨(some 12), .mv (.t 30), none, false, []⟩] none)
 (.seq (.seq (.ops [⟨(some 31), .mv (.t 8), none, false, []⟩,
   ⟨(some 32), .bin .sc .geq (.t 31) (.c (.int .i64 8)), none, false, []⟩] none)
 (.cond (.t 32) (.seq (.seq (.ops [⟨(some 33), .mv (.t 8), none, false, []⟩,
   ⟨(some 34), .bin .sc .geq (.t 33) (.c (.int .i64 50)), none, false, []⟩] none)
 (.cond (.t 34) (.seq (.ops [⟨(some 35), .mv (.t 0), none, false, []⟩,
   ⟨(some 36), .mv (.t 10), none, false, []⟩,
   ⟨(some 37), .call (.c (.func 132 [] [])) [(.t 35), (.t 36), (.t 9)], none, false, []⟩,
   ⟨(some 10), .mv (.t 37), none, false, []⟩] none)
 (.seq (.ops [⟨(some 38), .mv (.t 0), none, false, []⟩,
   ⟨(some 39), .mv (.t 11), none, false, []⟩,
   ⟨(some 40), .call (.c (.func 132 [] [])) [(.t 38), (.t 39), (.t 9)], none, false, []⟩,
   ⟨(some 11), .mv (.t 40), none, false, []⟩] none)
 (.ops [⟨(some 41), .mv (.t 0), none, false, []⟩,
   ⟨(some 42), .mv (.t 12), none, false, []⟩,
   ⟨(some 43), .call (.c (.func 132 [] [])) [(.t 41), (.t 42), (.t 9)], none, false, []⟩,
   ⟨(some 12), .mv (.t 43), none, false, []⟩] none))) .skip))
 (.ops [⟨(some 44), .mv (.t 0), none, false, []⟩,
   ⟨(some 45), .mv (.t 10), none, false, []⟩,
   ⟨(some 46), .mv (.t 11), none, false, []⟩,
   ⟨(some 47), .mv (.t 12), none, false, []⟩,
   ⟨(some 48), .call (.c (.func 133 [] [])) [(.t 44), (.t 45), (.t 46), (.t 47), (.t 9)], none, false, []⟩,
   ⟨(some 11), .mv (.t 48), none, false, []⟩] none)) .skip))
 (.seq (.ops [⟨(some 49), .load false 1 (.t 9), none, false, []⟩] none)
 (.block 0 (.seq (.ops [⟨(some 52), .bin .sc .eql (.t 49) (.c (.int .i64 0)), none, false, []⟩,
   ⟨(some 51), .mv (.t 52), none, false, []⟩] none)
 (.cond (.t 51) (.seq (.ops [⟨(some 53), .mv (.t 11), none, false, []⟩,
   ⟨(some 6), .mv (.t 53), none, false, []⟩,
   ⟨(some 7), .mv (.c (.int .i64 1)), none, false, []⟩] none)
 .ret) (.seq (.ops [⟨(some 55), .bin .sc .eql (.t 49) (.c (.int .i64 12)), none, false, []⟩,
   ⟨(some 54), .mv (.t 55), none, false, []⟩] none)
 (.cond (.t 54) (.seq (.ops [⟨(some 56), .mv (.t 11), none, false, []⟩,
   ⟨(some 6), .mv (.t 56), none, false, []⟩,
   ⟨(some 7), .mv (.c (.int .i64 2)), none, false, []⟩] none)
 .ret) (.seq (.ops [⟨(some 50), .mv (.t 11), none, false, []⟩,
   ⟨(some 6), .mv (.t 50), none, false, []⟩,
   ⟨(some 7), .mv (.c (.int .i64 0)), none, false, []⟩] none)
 .ret)))))))))))))) }
/- slices.reverseRangeOrdered[string] -/
def f124 : AFunc :=
 { np := 3, ntmps := 32, results := [], frz := false, body :=
 (.seq (.ops [⟨(some 8), .mv (.t 1), none, false, []⟩,
   ⟨(some 6), .mv (.t 8), none, false, []⟩] none)
 (.seq (.ops [⟨(some 9), .mv (.t 2), none, false, []⟩,
   ⟨(some 10), .bin .sc .sub (.t 9) (.c (.int .i64 1)), none, false, []⟩,
   ⟨(some 7), .mv (.t 10), none, false, []⟩] none)
 (.block 0 (.loop (.seq (.seq (.ops [⟨(some 11), .mv (.t 6), none, false, []⟩,
   ⟨(some 12), .mv (.t 7), none, false, []⟩,
   ⟨(some 13), .bin .sc .lss (.t 11) (.t 12), none, false, []⟩] none)
 (.cond (.t 13) .skip (.exit 0)))
 (.block 1 (.seq (.ops [⟨(some 14), .mv (.t 0), none, false, []⟩,
   ⟨(some 15), .mv (.t 6), none, false, []⟩,
   ⟨(some 16), .mv (.t 0), none, false, []⟩,
   ⟨(some 17), .mv (.t 7), none, false, []⟩,
   ⟨(some 18), .mv (.t 0), none, false, []⟩,
   ⟨(some 19), .mv (.t 7), none, false, []⟩,
   ⟨(some 20), .iaddr none 1 (.t 18) (.t 19), none, false, []⟩,
   ⟨(some 21), .load false 1 (.t 20), none, false, []⟩,
   ⟨(some 22), .mv (.t 0), none, false, []⟩,
   ⟨(some 23), .mv (.t 6), none, false, []⟩,
   ⟨(some 24), .iaddr none 1 (.t 22) (.t 23), none, false, []⟩,
   ⟨(some 25), .load false 1 (.t 24), none, false, []⟩,
   ⟨(some 26), .iaddr none 1 (.t 14) (.t 15), none, false, []⟩,
   ⟨none, .store 1 (.t 26) (.t 21), none, false, []⟩,
   ⟨(some 27), .iaddr none 1 (.t 16) (.t 17), none, false, []⟩,
   ⟨none, .store 1 (.t 27) (.t 25), none, false, []⟩] (some [[], [], [], [], [], [], [4, 5], [4, 5, 6], [], [], [8, 9], [8, 9, 10], [0, 1, 4, 5, 6, 7, 8, 9, 10, 11], [0, 1, 4, 5, 6, 7, 8, 9, 10, 11, 12], [0, 1, 2, 3, 4, 5, 6, 7, 8, 9, 10, 11, 12, 13], [0, 1, 2, 3, 4, 5, 6, 7, 8, 9, 10, 11, 12, 13, 14]]))
 (.seq (.ops [⟨(some 28), .mv (.t 6), none, false, []⟩,
   ⟨(some 29), .bin .sc .add (.t 28) (.c (.int .i64 1)), none, false, []⟩,
   ⟨(some 6), .mv (.t 29), none, false, []⟩] none)
 (.ops [⟨(some 30), .mv (.t 7), none, false, []⟩,
   ⟨(some 31), .bin .sc .sub (.t 30) (.c (.int .i64 1)), none, false, []⟩,
   ⟨(some 7), .mv (.t 31), none, false, []⟩] none))))))))) }
/- slices.partialInsertionSortOrdered[string] -/
def f125 : AFunc :=
 { np := 3, ntmps := 133, results := [.tmp 6], frz := false, body :=
 (.seq (.ops [⟨(some 6), .mv (.c (.bool false)), none, false, []⟩] none)
 (.seq (.ops [⟨(some 11), .mv (.t 1), none, false, []⟩,
   ⟨(some 12), .bin .sc .add (.t 11) (.c (.int .i64 1)), none, false, []⟩,
   ⟨(some 7), .mv (.t 12), none, false, []⟩] none)
 (.seq (.seq (.ops [⟨(some 8), .mv (.c (.int .i64 0)), none, false, []⟩] none)
 (.block 0 (.loop (.seq (.seq (.ops [⟨(some 13), .mv (.t 8), none, false, []⟩,
   ⟨(some 14), .bin .sc .lss (.t 13) (.c (.int .i64 5)), none, false, []⟩] none)
 (.cond (.t 14) .skip (.exit 0)))
 (.seq (.block 1 (.seq (.block 2 (.loop (.seq (.seq (.ops [⟨(some 17), .mv (.t 7), none, false, []⟩,
   ⟨(some 18), .mv (.t 2), none, false, []⟩,
   ⟨(some 19), .bin .sc .lss (.t 17) (.t 18), none, false, []⟩,
   ⟨(some 20), .mv (.t 19), none, false, []⟩,
   ⟨(some 21), .mv (.t 0), (some (20, true)), false, []⟩,
   ⟨(some 22), .mv (.t 7), (some (20, true)), false, []⟩,
   ⟨(some 23), .iaddr none 1 (.t 21) (.t 22), (some (20, true)), false, []⟩,
   ⟨(some 24), .load false 1 (.t 23), (some (20, true)), false, []⟩,
   ⟨(some 25), .mv (.t 0), (some (20, true)), false, []⟩,
   ⟨(some 26), .mv (.t 7), (some (20, true)), false, []⟩,
   ⟨(some 27), .bin .sc .sub (.t 26) (.c (.int .i64 1)), (some (20, true)), false, []⟩,
   ⟨(some 28), .iaddr none 1 (.t 25) (.t 27), (some (20, true)), false, []⟩,
   ⟨(some 29), .load false 1 (.t 28), (some (20, true)), false, []⟩,
   ⟨(some 30), .call (.c (.func 126 [] [])) [(.t 24), (.t 29)], (some (20, true)), false, []⟩,
   ⟨(some 31), .not (.t 30), (some (20, true)), false, []⟩,
   ⟨(some 32), .pick (.t 20) (.t 31) (.c (.bool false)), none, false, []⟩] (some [[], [], [0, 1], [0, 1, 2], [0, 1, 2, 3], [0, 1, 2, 3], [0, 1, 2, 3, 4, 5], [0, 1, 2, 3, 4, 5, 6], [0, 1, 2, 3], [0, 1, 2, 3], [0, 1, 2, 3, 9], [0, 1, 2, 3, 8, 9, 10], [0, 1, 2, 3, 8, 9, 10, 11], [0, 1, 2, 3, 4, 5, 6, 7, 8, 9, 10, 11, 12], [0, 1, 2, 3, 4, 5, 6, 7, 8, 9, 10, 11, 12, 13], [0, 1, 2, 3, 4, 5, 6, 7, 8, 9, 10, 11, 12, 13, 14]]))
 (.cond (.t 32) .skip (.exit 2)))
 (.block 3 (.ops [⟨(some 33), .mv (.t 7), none, false, []⟩,
   ⟨(some 34), .bin .sc .add (.t 33) (.c (.int .i64 1)), none, false, []⟩,
   ⟨(some 7), .mv (.t 34), none, false, []⟩] none)))))
 (.seq (.seq (.ops [⟨(some 35), .mv (.t 7), none, false, []⟩,
   ⟨(some 36), .mv (.t 2), none, false, []⟩,
   ⟨(some 37), .bin .sc .eql (.t 35) (.t 36), none, false, []⟩] none)
 (.cond (.t 37) (.seq (.ops [⟨(some 6), .mv (.c (.bool true)), none, false, []⟩] none)
 .ret) .skip))
 (.seq (.seq (.ops [⟨(some 38), .mv (.t 2), none, false, []⟩,
   ⟨(some 39), .mv (.t 1), none, false, []⟩,
   ⟨(some 40), .bin .sc .sub (.t 38) (.t 39), none, false, []⟩,
   ⟨(some 41), .bin .sc .lss (.t 40) (.c (.int .i64 50)), none, false, []⟩] none)
 (.cond (.t 41) (.seq (.ops [⟨(some 6), .mv (.c (.bool false)), none, false, []⟩] none)
 .ret) .skip))
 (.seq (.ops [⟨(some 42), .mv (.t 0), none, false, []⟩,
   ⟨(some 43), .mv (.t 7), none, false, []⟩,
   ⟨(some 44), .mv (.t 0), none, false, []⟩,
   ⟨(some 45), .mv (.t 7), none, false, []⟩,
   ⟨(some 46), .bin .sc .sub (.t 45) (.c (.int .i64 1)), none, false, []⟩,
   ⟨(some 47), .mv (.t 0), none, false, []⟩,
   ⟨(some 48), .mv (.t 7), none, false, []⟩,
   ⟨(some 49), .bin .sc .sub (.t 48) (.c (.int .i64 1)), none, false, []⟩,
   ⟨(some 50), .iaddr none 1 (.t 47) (.t 49), none, false, []⟩,
   ⟨(some 51), .load false 1 (.t 50), none, false, []⟩,
   ⟨(some 52), .mv (.t 0), none, false, []⟩,
   ⟨(some 53), .mv (.t 7), none, false, []⟩,
   ⟨(some 54), .iaddr none 1 (.t 52) (.t 53), none, false, []⟩,
   ⟨(some 55), .load false 1 (.t 54), none, false, []⟩,
   ⟨(some 56), .iaddr none 1 (.t 42) (.t 43), none, false, []⟩,
   ⟨none, .store 1 (.t 56) (.t 51), none, false, []⟩,
   ⟨(some 57), .iaddr none 1 (.t 44) (.t 46), none, false, []⟩,
   ⟨none, .store 1 (.t 57) (.t 55), none, false, []⟩] (some [[], [], [], [], [3], [], [], [6], [5, 6, 7], [5, 6, 7, 8], [], [], [10, 11], [10, 11, 12], [0, 1, 5, 6, 7, 8, 9, 10, 11, 12, 13], [0, 1, 5, 6, 7, 8, 9, 10, 11, 12, 13, 14], [0, 1, 2, 3, 4, 5, 6, 7, 8, 9, 10, 11, 12, 13, 14, 15], [0, 1, 2, 3, 4, 5, 6, 7, 8, 9, 10, 11, 12, 13, 14, 15, 16]]))
 (.seq (.seq (.ops [⟨(some 58), .mv (.t 7), none, false, []⟩,
   ⟨(some 59), .mv (.t 1), none, false, []⟩,
   ⟨(some 60), .bin .sc .sub (.t 58) (.t 59), none, false, []⟩,
   ⟨(some 61), .bin .sc .geq (.t 60) (.c (.int .i64 2)), none, false, []⟩] none)
 (.cond (.t 61) (.seq (.ops [⟨(some 62), .mv (.t 7), none, false, []⟩,
   ⟨(some 63), .bin .sc .sub (.t 62) (.c (.int .i64 1)), none, false, []⟩,
   ⟨(some 9), .mv (.t 63), none, false, []⟩] none)
 (.block 4 (.loop (.seq (.seq (.ops [⟨(some 64), .mv (.t 9), none, false, []⟩,
   ⟨(some 65), .bin .sc .geq (.t 64) (.c (.int .i64 1)), none, false, []⟩] none)
 (.cond (.t 65) .skip (.exit 4)))
 (.seq (.block 5 (.seq (.seq (.ops [⟨(some 68), .mv (.t 0), none, false, []⟩,
   ⟨(some 69), .mv (.t 9), none, false, []⟩,
   ⟨(some 70), .iaddr none 1 (.t 68) (.t 69), none, false, []⟩,
   ⟨(some 71), .load false 1 (.t 70), none, false, []⟩,
   ⟨(some 72), .mv (.t 0), none, false, []⟩,
   ⟨(some 73), .mv (.t 9), none, false, []⟩,
   ⟨(some 74), .bin .sc .sub (.t 73) (.c (.int .i64 1)), none, false, []⟩,
   ⟨(some 75), .iaddr none 1 (.t 72) (.t 74), none, false, []⟩,
   ⟨(some 76), .load false 1 (.t 75), none, false, []⟩,
   ⟨(some 77), .call (.c (.func 126 [] [])) [(.t 71), (.t 76)], none, false, []⟩,
   ⟨(some 78), .not (.t 77), none, false, []⟩] (some [[], [], [0, 1], [0, 1, 2], [], [], [5], [4, 5, 6], [4, 5, 6, 7], [0, 1, 2, 3, 4, 5, 6, 7, 8], [0, 1, 2, 3, 4, 5, 6, 7, 8, 9]]))
 (.cond (.t 78) (.exit 4) .skip))
 (.ops [⟨(some 79), .mv (.t 0), none, false, []⟩,
   ⟨(some 80), .mv (.t 9), none, false, []⟩,
   ⟨(some 81), .mv (.t 0), none, false, []⟩,
   ⟨(some 82), .mv (.t 9), none, false, []⟩,
   ⟨(some 83), .bin .sc .sub (.t 82) (.c (.int .i64 1)), none, false, []⟩,
   ⟨(some 84), .mv (.t 0), none, false, []⟩,
   ⟨(some 85), .mv (.t 9), none, false, []⟩,
   ⟨(some 86), .bin .sc .sub (.t 85) (.c (.int .i64 1)), none, false, []⟩,
   ⟨(some 87), .iaddr none 1 (.t 84) (.t 86), none, false, []⟩,
   ⟨(some 88), .load false 1 (.t 87), none, false, []⟩,
   ⟨(some 89), .mv (.t 0), none, false, []⟩,
   ⟨(some 90), .mv (.t 9), none, false, []⟩,
   ⟨(some 91), .iaddr none 1 (.t 89) (.t 90), none, false, []⟩,
   ⟨(some 92), .load false 1 (.t 91), none, false, []⟩,
   ⟨(some 93), .iaddr none 1 (.t 79) (.t 80), none, false, []⟩,
   ⟨none, .store 1 (.t 93) (.t 88), none, false, []⟩,
   ⟨(some 94), .iaddr none 1 (.t 81) (.t 83), none, false, []⟩,
   ⟨none, .store 1 (.t 94) (.t 92), none, false, []⟩] (some [[], [], [], [], [3], [], [], [6], [5, 6, 7], [5, 6, 7, 8], [], [], [10, 11], [10, 11, 12], [0, 1, 5, 6, 7, 8, 9, 10, 11, 12, 13], [0, 1, 5, 6, 7, 8, 9, 10, 11, 12, 13, 14], [0, 1, 2, 3, 4, 5, 6, 7, 8, 9, 10, 11, 12, 13, 14, 15], [0, 1, 2, 3, 4, 5, 6, 7, 8, 9, 10, 11, 12, 13, 14, 15, 16]]))))
 (.ops [⟨(some 66), .mv (.t 9), none, false, []⟩,
   ⟨(some 67), .bin .sc .sub (.t 66) (.c (.int .i64 1)), none, false, []⟩,
   ⟨(some 9), .mv (.t 67), none, false, []⟩] none)))))) .skip))
 (.seq (.ops [⟨(some 95), .mv (.t 2), none, false, []⟩,
   ⟨(some 96), .mv (.t 7), none, false, []⟩,
   ⟨(some 97), .bin .sc .sub (.t 95) (.t 96), none, false, []⟩,
   ⟨(some 98), .bin .sc .geq (.t 97) (.c (.int .i64 2)), none, false, []⟩] none)
 (.cond (.t 98) (.seq (.ops [⟨(some 99), .mv (.t 7), none, false, []⟩,
   ⟨(some 100), .bin .sc .add (.t 99) (.c (.int .i64 1)), none, false, []⟩,
   ⟨(some 10), .mv (.t 100), none, false, []⟩] none)
 (.block 6 (.loop (.seq (.seq (.ops [⟨(some 101), .mv (.t 10), none, false, []⟩,
   ⟨(some 102), .mv (.t 2), none, false, []⟩,
   ⟨(some 103), .bin .sc .lss (.t 101) (.t 102), none, false, []⟩] none)
 (.cond (.t 103) .skip (.exit 6)))
 (.seq (.block 7 (.seq (.seq (.ops [⟨(some 106), .mv (.t 0), none, false, []⟩,
   ⟨(some 107), .mv (.t 10), none, false, []⟩,
   ⟨(some 108), .iaddr none 1 (.t 106) (.t 107), none, false, []⟩,
   ⟨(some 109), .load false 1 (.t 108), none, false, []⟩,
   ⟨(some 110), .mv (.t 0), none, false, []⟩,
   ⟨(some 111), .mv (.t 10), none, false, []⟩,
   ⟨(some 112), .bin .sc .sub (.t 111) (.c (.int .i64 1)), none, false, []⟩,
   ⟨(some 113), .iaddr none 1 (.t 110) (.t 112), none, false, []⟩,
   ⟨(some 114), .load false 1 (.t 113), none, false, []⟩,
   ⟨(some 115), .call (.c (.func 126 [] [])) [(.t 109), (.t 114)], none, false, []⟩,
   ⟨(some 116), .not (.t 115), none, false, []⟩] (some [[], [], [0, 1], [0, 1, 2], [], [], [5], [4, 5, 6], [4, 5, 6, 7], [0, 1, 2, 3, 4, 5, 6, 7, 8], [0, 1, 2, 3, 4, 5, 6, 7, 8, 9]]))
 (.cond (.t 116) (.exit 6) .skip))
 (.ops [⟨(some 117), .mv (.t 0), none, false, []⟩,
   ⟨(some 118), .mv (.t 10), none, false, []⟩,
   ⟨(some 119), .mv (.t 0), none, false, []⟩,
   ⟨(some 120), .mv (.t 10), none, false, []⟩,
   ⟨(some 121), .bin .sc .sub (.t 120) (.c (.int .i64 1)), none, false, []⟩,
   ⟨(some 122), .mv (.t 0), none, false, []⟩,
   ⟨(some 123), .mv (.t 10), none, false, []⟩,
   ⟨(some 124), .bin .sc .sub (.t 123) (.c (.int .i64 1)), none, false, []⟩,
   ⟨(some 125), .iaddr none 1 (.t 122) (.t 124), none, false, []⟩,
   ⟨(some 126), .load false 1 (.t 125), none, false, []⟩,
   ⟨(some 127), .mv (.t 0), none, false, []⟩,
   ⟨(some 128), .mv (.t 10), none, false, []⟩,
   ⟨(some 129), .iaddr none 1 (.t 127) (.t 128), none, false, []⟩,
   ⟨(some 130), .load false 1 (.t 129), none, false, []⟩,
   ⟨(some 131), .iaddr none 1 (.t 117) (.t 118), none, false, []⟩,
   ⟨none, .store 1 (.t 131) (.t 126), none, false, []⟩,
   ⟨(some 132), .iaddr none 1 (.t 119) (.t 121), none, false, []⟩,
   ⟨none, .store 1 (.t 132) (.t 130), none, false, []⟩] (some [[], [], [], [], [3], [], [], [6], [5, 6, 7], [5, 6, 7, 8], [], [], [10, 11], [10, 11, 12], [0, 1, 5, 6, 7, 8, 9, 10, 11, 12, 13], [0, 1, 5, 6, 7, 8, 9, 10, 11, 12, 13, 14], [0, 1, 2, 3, 4, 5, 6, 7, 8, 9, 10, 11, 12, 13, 14, 15], [0, 1, 2, 3, 4, 5, 6, 7, 8, 9, 10, 11, 12, 13, 14, 15, 16]]))))
 (.ops [⟨(some 104), .mv (.t 10), none, false, []⟩,
   ⟨(some 105), .bin .sc .add (.t 104) (.c (.int .i64 1)), none, false, []⟩,
   ⟨(some 10), .mv (.t 105), none, false, []⟩] none)))))) .skip))))))))
 (.ops [⟨(some 15), .mv (.t 8), none, false, []⟩,
   ⟨(some 16), .bin .sc .add (.t 15) (.c (.int .i64 1)), none, false, []⟩,
   ⟨(some 8), .mv (.t 16), none, false, []⟩] none))))))
 (.seq (.ops [⟨(some 6), .mv (.c (.bool false)), none, false, []⟩] none)
 .ret)))) }
end Go.Am.DataWrong
