/- The code of the functions, for the abstract machine: printed by a program of this claim. -/
import Derived.Test.YtjjcongjjikifaaAmA
set_option maxRecDepth 100000
namespace Go.Am.Infer
open Go.Am
/- (*warpref9.parser).con -/
def f44 : AFunc :=
 { np := 2, ntmps := 25, results := [.cell 4 3 true], frz := false, body :=
 (.seq (.ops [⟨(some 4), .alloc true [.str [], .int .i64 0, .pl [] 0 .nil], none, false, []⟩] none)
 (.seq (.ops [⟨(some 7), .mv (.t 0), none, false, []⟩,
   ⟨(some 8), .call (.c (.func 41 [] [])) [(.t 7), (.c (.int .i64 2)), (.c (.str []))], none, false, []⟩,
   ⟨(some 5), .alloc true [.int .i64 0, .int .i64 0, .str [], .int .i64 0], none, false, []⟩,
   ⟨none, .store 4 (.t 5) (.t 8), none, false, []⟩] none)
 (.seq (.ops [⟨(some 9), .faddr 2 (.t 5), none, false, []⟩,
   ⟨(some 10), .load false 1 (.t 9), none, false, []⟩,
   ⟨(some 11), .faddr 1 (.t 5), none, false, []⟩,
   ⟨(some 12), .load false 1 (.t 11), none, false, []⟩,
   ⟨(some 13), .build [.str [], .int .i64 0, .pl [] 0 .nil] [(0, 1, (.t 10)), (1, 1, (.t 12))], none, false, []⟩,
   ⟨(some 6), .alloc true [.str [], .int .i64 0, .pl [] 0 .nil], none, false, []⟩,
   ⟨none, .store 3 (.t 6) (.t 13), none, false, []⟩] none)
 (.seq (.block 0 (.loop (.seq (.seq (.ops [⟨(some 14), .mv (.t 0), none, false, []⟩,
   ⟨(some 15), .call (.c (.func 71 [] [])) [(.t 14)], none, false, []⟩] none)
 (.cond (.t 15) .skip (.exit 0)))
 (.block 1 (.ops [⟨(some 16), .faddr 2 (.t 6), none, false, []⟩,
   ⟨(some 17), .load false 1 (.t 16), none, true, []⟩,
   ⟨(some 18), .mv (.t 0), none, false, []⟩,
   ⟨(some 19), .mv (.t 1), none, false, []⟩,
   ⟨(some 20), .call (.c (.func 72 [] [])) [(.t 18), (.t 19)], none, false, []⟩,
   ⟨(some 21), .bslice false 1 [.int .i64 0, .int .i64 0, .str [], .pl [] 0 .nil] [(0, 4, (.t 20))], none, false, []⟩,
   ⟨(some 22), .app false 4 56 (.t 17) (.t 21), none, false, []⟩,
   ⟨(some 23), .faddr 2 (.t 6), none, false, []⟩,
   ⟨none, .store 1 (.t 23) (.t 22), none, false, []⟩] (some [[], [0], [], [], [2, 3], [2, 3, 4], [0, 1, 2, 3, 4, 5], [0, 1, 2, 3, 4, 5, 6], [0, 1, 2, 3, 4, 5, 6, 7]]))))))
 (.seq (.ops [⟨(some 24), .load true 3 (.t 6), none, false, []⟩,
   ⟨none, .store 3 (.t 4) (.t 24), none, false, []⟩] none)
 .ret))))) }
/- (*warpref9.parser).try -/
def f45 : AFunc :=
 { np := 2, ntmps := 16, results := [.tmp 4], frz := false, body :=
 (.seq (.ops [⟨(some 4), .mv (.c (.bool false)), none, false, []⟩] none)
 (.seq (.seq (.ops [⟨(some 5), .mv (.t 0), none, false, []⟩,
   ⟨(some 6), .mv (.t 1), none, false, []⟩,
   ⟨(some 7), .call (.c (.func 40 [] [])) [(.t 5), (.c (.int .i64 5)), (.t 6)], none, false, []⟩,
   ⟨(some 8), .not (.t 7), none, false, []⟩] none)
 (.cond (.t 8) (.seq (.ops [⟨(some 4), .mv (.c (.bool false)), none, false, []⟩] none)
 .ret) .skip))
 (.seq (.ops [⟨(some 9), .mv (.t 0), none, false, []⟩,
   ⟨(some 10), .nilck (.t 9), none, false, []⟩,
   ⟨(some 11), .faddr 1 (.t 10), none, false, []⟩,
   ⟨(some 12), .load false 1 (.t 11), none, false, []⟩,
   ⟨(some 13), .bin .sc .add (.t 12) (.c (.int .i64 1)), none, false, []⟩,
   ⟨(some 14), .nilck (.t 9), none, false, []⟩,
   ⟨(some 15), .faddr 1 (.t 14), none, false, []⟩,
   ⟨none, .store 1 (.t 15) (.t 13), none, false, []⟩] none)
 (.seq (.ops [⟨(some 4), .mv (.c (.bool true)), none, false, []⟩] none)
 .ret)))) }
/- warpref9.lams -/
def f46 : AFunc :=
 { np := 3, ntmps := 25, results := [.cell 6 6 true], frz := false, body :=
 (.seq (.ops [⟨(some 5), .box true (.t 2), none, false, []⟩,
   ⟨(some 6), .alloc true [.int .i64 0, .int .i64 0, .str [], .int .i64 0, .pl [] 0 .nil, .pl [] 0 .nil], none, false, []⟩] none)
 (.seq (.seq (.ops [⟨(some 8), .mv (.t 0), none, false, []⟩,
   ⟨(some 9), .len 1 (.t 8), none, false, []⟩,
   ⟨(some 10), .bin .sc .sub (.t 9) (.c (.int .i64 1)), none, false, []⟩,
   ⟨(some 7), .mv (.t 10), none, false, []⟩] none)
 (.block 0 (.loop (.seq (.seq (.ops [⟨(some 11), .mv (.t 7), none, false, []⟩,
   ⟨(some 12), .bin .sc .geq (.t 11) (.c (.int .i64 0)), none, false, []⟩] none)
 (.cond (.t 12) .skip (.exit 0)))
 (.seq (.block 1 (.ops [⟨(some 15), .mv (.t 1), none, false, []⟩,
   ⟨(some 16), .mv (.t 0), none, false, []⟩,
   ⟨(some 17), .mv (.t 7), none, false, []⟩,
   ⟨(some 18), .iaddr none 4 (.t 16) (.t 17), none, false, []⟩,
   ⟨(some 19), .faddr 2 (.t 18), none, false, []⟩,
   ⟨(some 20), .load false 1 (.t 19), none, false, []⟩,
   ⟨(some 21), .load true 6 (.t 5), none, false, []⟩,
   ⟨(some 22), .bslice false 1 [.int .i64 0, .int .i64 0, .str [], .int .i64 0, .pl [] 0 .nil, .pl [] 0 .nil] [(0, 6, (.t 21))], none, false, []⟩,
   ⟨(some 23), .build [.int .i64 0, .int .i64 0, .str [], .int .i64 0, .pl [] 0 .nil, .pl [] 0 .nil] [(0, 1, (.c (.int .i64 6))), (1, 1, (.t 15)), (2, 1, (.t 20)), (4, 1, (.t 22))], none, false, []⟩,
   ⟨none, .store 6 (.t 5) (.t 23), none, false, []⟩] (some [[], [], [], [1, 2], [1, 2, 3], [1, 2, 3, 4], [], [6], [0, 1, 2, 3, 4, 5, 6, 7], [0, 1, 2, 3, 4, 5, 6, 7, 8]])))
 (.ops [⟨(some 13), .mv (.t 7), none, false, []⟩,
   ⟨(some 14), .bin .sc .sub (.t 13) (.c (.int .i64 1)), none, false, []⟩,
   ⟨(some 7), .mv (.t 14), none, false, []⟩] none))))))
 (.seq (.ops [⟨(some 24), .load true 6 (.t 5), none, false, []⟩,
   ⟨none, .store 6 (.t 6) (.t 24), none, false, []⟩] none)
 .ret))) }
/- (*warpref9.parser).expr -/
def f47 : AFunc :=
 { np := 1, ntmps := 171, results := [.cell 2 6 true], frz := false, body :=
 (.seq (.ops [⟨(some 2), .alloc true [.int .i64 0, .int .i64 0, .str [], .int .i64 0, .pl [] 0 .nil, .pl [] 0 .nil], none, false, []⟩] none)
 (.seq (.seq (.ops [⟨(some 13), .mv (.t 0), none, false, []⟩,
   ⟨(some 14), .nilck (.t 13), none, false, []⟩,
   ⟨(some 15), .faddr 3 (.t 14), none, false, []⟩,
   ⟨(some 16), .load false 1 (.t 15), none, false, []⟩,
   ⟨(some 17), .mv (.t 16), none, false, []⟩,
   ⟨(some 18), .mv (.t 0), (some (17, false)), false, []⟩,
   ⟨(some 19), .nilck (.t 18), (some (17, false)), false, []⟩,
   ⟨(some 20), .faddr 1 (.t 19), (some (17, false)), false, []⟩,
   ⟨(some 21), .load false 1 (.t 20), (some (17, false)), false, []⟩,
   ⟨(some 22), .mv (.t 0), (some (17, false)), false, []⟩,
   ⟨(some 23), .nilck (.t 22), (some (17, false)), false, []⟩,
   ⟨(some 24), .faddr 0 (.t 23), (some (17, false)), false, []⟩,
   ⟨(some 25), .load false 1 (.t 24), (some (17, false)), false, []⟩,
   ⟨(some 26), .len 1 (.t 25), (some (17, false)), false, []⟩,
   ⟨(some 27), .bin .sc .geq (.t 21) (.t 26), (some (17, false)), false, []⟩,
   ⟨(some 28), .pick (.t 17) (.c (.bool true)) (.t 27), none, false, []⟩] (some [[], [0], [0, 1], [0, 1, 2], [0, 1, 2, 3], [0, 1, 2, 3, 4], [0, 1, 2, 3, 4, 5], [0, 1, 2, 3, 4, 5, 6], [0, 1, 2, 3, 4, 5, 6, 7], [0, 1, 2, 3, 4], [0, 1, 2, 3, 4, 9], [0, 1, 2, 3, 4, 9, 10], [0, 1, 2, 3, 4, 9, 10, 11], [0, 1, 2, 3, 4, 9, 10, 11, 12], [0, 1, 2, 3, 4, 5, 6, 7, 8, 9, 10, 11, 12, 13], [0, 1, 2, 3, 4, 5, 6, 7, 8, 9, 10, 11, 12, 13, 14]]))
 (.cond (.t 28) (.seq (.ops [⟨(some 29), .mv (.t 0), none, false, []⟩,
   ⟨(some 30), .call (.c (.func 70 [] [])) [(.t 29)], none, false, []⟩] none)
 (.seq (.ops [⟨(some 31), .build [.int .i64 0, .int .i64 0, .str [], .int .i64 0, .pl [] 0 .nil, .pl [] 0 .nil] [], none, false, []⟩,
   ⟨none, .store 6 (.t 2) (.t 31), none, false, []⟩] none)
 .ret)) .skip))
 (.seq (.ops [⟨(some 32), .mv (.t 0), none, false, []⟩,
   ⟨(some 33), .nilck (.t 32), none, false, []⟩,
   ⟨(some 34), .faddr 0 (.t 33), none, false, []⟩,
   ⟨(some 35), .load false 1 (.t 34), none, false, []⟩,
   ⟨(some 36), .mv (.t 0), none, false, []⟩,
   ⟨(some 37), .nilck (.t 36), none, false, []⟩,
   ⟨(some 38), .faddr 1 (.t 37), none, false, []⟩,
   ⟨(some 39), .load false 1 (.t 38), none, false, []⟩,
   ⟨(some 40), .iaddr none 4 (.t 35) (.t 39), none, false, []⟩,
   ⟨(some 41), .load true 4 (.t 40), none, false, []⟩,
   ⟨(some 3), .alloc true [.int .i64 0, .int .i64 0, .str [], .int .i64 0], none, false, []⟩,
   ⟨none, .store 4 (.t 3) (.t 41), none, false, []⟩] (some [[], [0], [0, 1], [0, 1, 2], [], [4], [4, 5], [4, 5, 6], [0, 1, 2, 3, 4, 5, 6, 7], [0, 1, 2, 3, 4, 5, 6, 7, 8], [], [0, 1, 2, 3, 4, 5, 6, 7, 8, 9, 10]]))
 (.seq (.block 0 (.seq (.ops [⟨(some 43), .mv (.t 0), none, false, []⟩,
   ⟨(some 44), .call (.c (.func 45 [] [])) [(.t 43), (.c (.str [92]))], none, false, []⟩,
   ⟨(some 42), .mv (.t 44), none, false, []⟩] none)
 (.cond (.t 42) (.seq (.ops [⟨(some 45), .mv (.t 0), none, false, []⟩,
   ⟨(some 46), .call (.c (.func 41 [] [])) [(.t 45), (.c (.int .i64 1)), (.c (.str []))], none, false, []⟩,
   ⟨(some 47), .bslice false 1 [.int .i64 0, .int .i64 0, .str [], .int .i64 0] [(0, 4, (.t 46))], none, false, []⟩,
   ⟨(some 4), .mv (.t 47), none, false, []⟩] none)
 (.seq (.ops [⟨(some 48), .mv (.t 4), none, false, []⟩,
   ⟨(some 49), .mv (.t 0), none, false, []⟩,
   ⟨(some 50), .call (.c (.func 42 [] [])) [(.t 49)], none, false, []⟩,
   ⟨(some 51), .app false 4 40 (.t 48) (.t 50), none, false, []⟩,
   ⟨(some 4), .mv (.t 51), none, false, []⟩] none)
 (.seq (.ops [⟨(some 52), .mv (.t 0), none, false, []⟩,
   ⟨(some 53), .call (.c (.func 43 [] [])) [(.t 52), (.c (.str [45, 62]))], none, false, []⟩] none)
 (.seq (.ops [⟨(some 54), .mv (.t 4), none, false, []⟩,
   ⟨(some 55), .faddr 1 (.t 3), none, false, []⟩,
   ⟨(some 56), .load false 1 (.t 55), none, true, []⟩,
   ⟨(some 57), .mv (.t 0), none, false, []⟩,
   ⟨(some 58), .call (.c (.func 47 [] [])) [(.t 57)], none, false, []⟩,
   ⟨(some 59), .call (.c (.func 46 [] [])) [(.t 54), (.t 56), (.t 58)], none, false, []⟩,
   ⟨none, .store 6 (.t 2) (.t 59), none, false, []⟩] (some [[], [], [1], [], [3], [0, 1, 2, 3, 4], [0, 1, 2, 3, 4, 5]]))
 .ret)))) (.seq (.ops [⟨(some 61), .mv (.t 0), none, false, []⟩,
   ⟨(some 62), .call (.c (.func 40 [] [])) [(.t 61), (.c (.int .i64 4)), (.c (.str [108, 101, 116]))], none, false, []⟩,
   ⟨(some 60), .mv (.t 62), none, false, []⟩] none)
 (.cond (.t 60) (.seq (.ops [⟨(some 63), .mv (.t 0), none, false, []⟩,
   ⟨(some 64), .nilck (.t 63), none, false, []⟩,
   ⟨(some 65), .faddr 1 (.t 64), none, false, []⟩,
   ⟨(some 66), .load false 1 (.t 65), none, false, []⟩,
   ⟨(some 67), .bin .sc .add (.t 66) (.c (.int .i64 1)), none, false, []⟩,
   ⟨(some 68), .nilck (.t 63), none, false, []⟩,
   ⟨(some 69), .faddr 1 (.t 68), none, false, []⟩,
   ⟨none, .store 1 (.t 69) (.t 67), none, false, []⟩] none)
 (.seq (.ops [⟨(some 70), .mv (.t 0), none, false, []⟩,
   ⟨(some 71), .call (.c (.func 41 [] [])) [(.t 70), (.c (.int .i64 1)), (.c (.str []))], none, false, []⟩,
   ⟨(some 5), .alloc true [.int .i64 0, .int .i64 0, .str [], .int .i64 0], none, false, []⟩,
   ⟨none, .store 4 (.t 5) (.t 71), none, false, []⟩] none)
 (.seq (.ops [⟨(some 72), .mv (.t 0), none, false, []⟩,
   ⟨(some 73), .call (.c (.func 42 [] [])) [(.t 72)], none, false, []⟩,
   ⟨(some 6), .mv (.t 73), none, false, []⟩] none)
 (.seq (.ops [⟨(some 74), .mv (.t 0), none, false, []⟩,
   ⟨(some 75), .call (.c (.func 43 [] [])) [(.t 74), (.c (.str [61]))], none, false, []⟩] none)
 (.seq (.ops [⟨(some 76), .mv (.t 6), none, false, []⟩,
   ⟨(some 77), .faddr 1 (.t 5), none, false, []⟩,
   ⟨(some 78), .load false 1 (.t 77), none, true, []⟩,
   ⟨(some 79), .mv (.t 0), none, false, []⟩,
   ⟨(some 80), .call (.c (.func 47 [] [])) [(.t 79)], none, false, []⟩,
   ⟨(some 81), .call (.c (.func 46 [] [])) [(.t 76), (.t 78), (.t 80)], none, false, []⟩,
   ⟨(some 7), .alloc true [.int .i64 0, .int .i64 0, .str [], .int .i64 0, .pl [] 0 .nil, .pl [] 0 .nil], none, false, []⟩,
   ⟨none, .store 6 (.t 7) (.t 81), none, false, []⟩] (some [[], [], [1], [], [3], [0, 1, 2, 3, 4], [], [0, 1, 2, 3, 4, 5, 6]]))
 (.seq (.ops [⟨(some 82), .mv (.t 0), none, false, []⟩,
   ⟨(some 83), .call (.c (.func 41 [] [])) [(.t 82), (.c (.int .i64 4)), (.c (.str [105, 110]))], none, false, []⟩] none)
 (.seq (.ops [⟨(some 84), .faddr 1 (.t 3), none, false, []⟩,
   ⟨(some 85), .load false 1 (.t 84), none, true, []⟩,
   ⟨(some 86), .faddr 2 (.t 5), none, false, []⟩,
   ⟨(some 87), .load false 1 (.t 86), none, true, []⟩,
   ⟨(some 88), .load true 6 (.t 7), none, true, []⟩,
   ⟨(some 89), .mv (.t 0), none, false, []⟩,
   ⟨(some 90), .call (.c (.func 47 [] [])) [(.t 89)], none, false, []⟩,
   ⟨(some 91), .bslice false 2 [.int .i64 0, .int .i64 0, .str [], .int .i64 0, .pl [] 0 .nil, .pl [] 0 .nil, .int .i64 0, .int .i64 0, .str [], .int .i64 0, .pl [] 0 .nil, .pl [] 0 .nil] [(0, 6, (.t 88)), (6, 6, (.t 90))], none, false, []⟩,
   ⟨(some 92), .build [.int .i64 0, .int .i64 0, .str [], .int .i64 0, .pl [] 0 .nil, .pl [] 0 .nil] [(0, 1, (.c (.int .i64 7))), (1, 1, (.t 85)), (2, 1, (.t 87)), (4, 1, (.t 91))], none, false, []⟩,
   ⟨none, .store 6 (.t 2) (.t 92), none, false, []⟩] (some [[], [0], [], [2], [], [], [5], [4, 5, 6], [0, 1, 2, 3, 4, 5, 6, 7], [0, 1, 2, 3, 4, 5, 6, 7, 8]]))
 .ret))))))) (.seq (.ops [⟨(some 94), .mv (.t 0), none, false, []⟩,
   ⟨(some 95), .call (.c (.func 40 [] [])) [(.t 94), (.c (.int .i64 4)), (.c (.str [105, 102]))], none, false, []⟩,
   ⟨(some 93), .mv (.t 95), none, false, []⟩] none)
 (.cond (.t 93) (.seq (.ops [⟨(some 96), .mv (.t 0), none, false, []⟩,
   ⟨(some 97), .nilck (.t 96), none, false, []⟩,
   ⟨(some 98), .faddr 1 (.t 97), none, false, []⟩,
   ⟨(some 99), .load false 1 (.t 98), none, false, []⟩,
   ⟨(some 100), .bin .sc .add (.t 99) (.c (.int .i64 1)), none, false, []⟩,
   ⟨(some 101), .nilck (.t 96), none, false, []⟩,
   ⟨(some 102), .faddr 1 (.t 101), none, false, []⟩,
   ⟨none, .store 1 (.t 102) (.t 100), none, false, []⟩] none)
 (.seq (.ops [⟨(some 103), .mv (.t 0), none, false, []⟩,
   ⟨(some 104), .call (.c (.func 47 [] [])) [(.t 103)], none, false, []⟩,
   ⟨(some 8), .alloc true [.int .i64 0, .int .i64 0, .str [], .int .i64 0, .pl [] 0 .nil, .pl [] 0 .nil], none, false, []⟩,
   ⟨none, .store 6 (.t 8) (.t 104), none, false, []⟩] none)
 (.seq (.ops [⟨(some 105), .mv (.t 0), none, false, []⟩,
   ⟨(some 106), .call (.c (.func 41 [] [])) [(.t 105), (.c (.int .i64 4)), (.c (.str [116, 104, 101, 110]))], none, false, []⟩] none)
 (.seq (.ops [⟨(some 107), .mv (.t 0), none, false, []⟩,
   ⟨(some 108), .call (.c (.func 47 [] [])) [(.t 107)], none, false, []⟩,
   ⟨(some 9), .alloc true [.int .i64 0, .int .i64 0, .str [], .int .i64 0, .pl [] 0 .nil, .pl [] 0 .nil], none, false, []⟩,
   ⟨none, .store 6 (.t 9) (.t 108), none, false, []⟩] none)
 (.seq (.ops [⟨(some 109), .mv (.t 0), none, false, []⟩,
   ⟨(some 110), .call (.c (.func 41 [] [])) [(.t 109), (.c (.int .i64 4)), (.c (.str [101, 108, 115, 101]))], none, false, []⟩] none)
 (.seq (.ops [⟨(some 111), .faddr 1 (.t 3), none, false, []⟩,
   ⟨(some 112), .load false 1 (.t 111), none, true, []⟩,
   ⟨(some 113), .load true 6 (.t 8), none, true, []⟩,
   ⟨(some 114), .load true 6 (.t 9), none, true, []⟩,
   ⟨(some 115), .mv (.t 0), none, false, []⟩,
   ⟨(some 116), .call (.c (.func 47 [] [])) [(.t 115)], none, false, []⟩,
   ⟨(some 117), .bslice false 3 [.int .i64 0, .int .i64 0, .str [], .int .i64 0, .pl [] 0 .nil, .pl [] 0 .nil, .int .i64 0, .int .i64 0, .str [], .int .i64 0, .pl [] 0 .nil, .pl [] 0 .nil, .int .i64 0, .int .i64 0, .str [], .int .i64 0, .pl [] 0 .nil, .pl [] 0 .nil] [(0, 6, (.t 113)), (6, 6, (.t 114)), (12, 6, (.t 116))], none, false, []⟩,
   ⟨(some 118), .build [.int .i64 0, .int .i64 0, .str [], .int .i64 0, .pl [] 0 .nil, .pl [] 0 .nil] [(0, 1, (.c (.int .i64 9))), (1, 1, (.t 112)), (4, 1, (.t 117))], none, false, []⟩,
   ⟨none, .store 6 (.t 2) (.t 118), none, false, []⟩] (some [[], [0], [], [], [], [4], [2, 3, 4, 5], [0, 1, 2, 3, 4, 5, 6], [0, 1, 2, 3, 4, 5, 6, 7]]))
 .ret)))))) (.seq (.ops [⟨(some 120), .mv (.t 0), none, false, []⟩,
   ⟨(some 121), .call (.c (.func 40 [] [])) [(.t 120), (.c (.int .i64 4)), (.c (.str [99, 97, 115, 101]))], none, false, []⟩,
   ⟨(some 119), .mv (.t 121), none, false, []⟩] none)
 (.cond (.t 119) (.seq (.ops [⟨(some 122), .mv (.t 0), none, false, []⟩,
   ⟨(some 123), .nilck (.t 122), none, false, []⟩,
   ⟨(some 124), .faddr 1 (.t 123), none, false, []⟩,
   ⟨(some 125), .load false 1 (.t 124), none, false, []⟩,
   ⟨(some 126), .bin .sc .add (.t 125) (.c (.int .i64 1)), none, false, []⟩,
   ⟨(some 127), .nilck (.t 122), none, false, []⟩,
   ⟨(some 128), .faddr 1 (.t 127), none, false, []⟩,
   ⟨none, .store 1 (.t 128) (.t 126), none, false, []⟩] none)
 (.seq (.ops [⟨(some 129), .faddr 1 (.t 3), none, false, []⟩,
   ⟨(some 130), .load false 1 (.t 129), none, true, []⟩,
   ⟨(some 131), .mv (.t 0), none, false, []⟩,
   ⟨(some 132), .call (.c (.func 47 [] [])) [(.t 131)], none, false, []⟩,
   ⟨(some 133), .bslice false 1 [.int .i64 0, .int .i64 0, .str [], .int .i64 0, .pl [] 0 .nil, .pl [] 0 .nil] [(0, 6, (.t 132))], none, false, []⟩,
   ⟨(some 134), .build [.int .i64 0, .int .i64 0, .str [], .int .i64 0, .pl [] 0 .nil, .pl [] 0 .nil] [(0, 1, (.c (.int .i64 10))), (1, 1, (.t 130)), (4, 1, (.t 133))], none, false, []⟩,
   ⟨(some 10), .alloc true [.int .i64 0, .int .i64 0, .str [], .int .i64 0, .pl [] 0 .nil, .pl [] 0 .nil], none, false, []⟩,
   ⟨none, .store 6 (.t 10) (.t 134), none, false, []⟩] (some [[], [0], [], [2], [2, 3], [0, 1, 2, 3, 4], [], [0, 1, 2, 3, 4, 5, 6]]))
 (.seq (.ops [⟨(some 135), .mv (.t 0), none, false, []⟩,
   ⟨(some 136), .call (.c (.func 41 [] [])) [(.t 135), (.c (.int .i64 4)), (.c (.str [111, 102]))], none, false, []⟩] none)
 (.seq (.ops [⟨(some 137), .mv (.t 0), none, false, []⟩,
   ⟨(some 138), .call (.c (.func 43 [] [])) [(.t 137), (.c (.str [123]))], none, false, []⟩] none)
 (.seq (.ops [⟨(some 139), .faddr 5 (.t 10), none, false, []⟩,
   ⟨(some 140), .load false 1 (.t 139), none, true, []⟩,
   ⟨(some 141), .mv (.t 0), none, false, []⟩,
   ⟨(some 142), .call (.c (.func 73 [] [])) [(.t 141)], none, false, []⟩,
   ⟨(some 143), .bslice false 1 [.int .i64 0, .str [], .pl [] 0 .nil, .int .i64 0, .int .i64 0, .str [], .int .i64 0, .pl [] 0 .nil, .pl [] 0 .nil] [(0, 9, (.t 142))], none, false, []⟩,
   ⟨(some 144), .app false 9 136 (.t 140) (.t 143), none, false, []⟩,
   ⟨(some 145), .faddr 5 (.t 10), none, false, []⟩,
   ⟨none, .store 1 (.t 145) (.t 144), none, false, []⟩] (some [[], [0], [], [2], [2, 3], [0, 1, 2, 3, 4], [0, 1, 2, 3, 4, 5], [0, 1, 2, 3, 4, 5, 6]]))
 (.seq (.block 1 (.loop (.seq (.seq (.ops [⟨(some 146), .mv (.t 0), none, false, []⟩,
   ⟨(some 147), .call (.c (.func 45 [] [])) [(.t 146), (.c (.str [59]))], none, false, []⟩] none)
 (.cond (.t 147) .skip (.exit 1)))
 (.block 2 (.ops [⟨(some 148), .faddr 5 (.t 10), none, false, []⟩,
   ⟨(some 149), .load false 1 (.t 148), none, true, []⟩,
   ⟨(some 150), .mv (.t 0), none, false, []⟩,
   ⟨(some 151), .call (.c (.func 73 [] [])) [(.t 150)], none, false, []⟩,
   ⟨(some 152), .bslice false 1 [.int .i64 0, .str [], .pl [] 0 .nil, .int .i64 0, .int .i64 0, .str [], .int .i64 0, .pl [] 0 .nil, .pl [] 0 .nil] [(0, 9, (.t 151))], none, false, []⟩,
   ⟨(some 153), .app false 9 136 (.t 149) (.t 152), none, false, []⟩,
   ⟨(some 154), .faddr 5 (.t 10), none, false, []⟩,
   ⟨none, .store 1 (.t 154) (.t 153), none, false, []⟩] (some [[], [0], [], [2], [2, 3], [0, 1, 2, 3, 4], [0, 1, 2, 3, 4, 5], [0, 1, 2, 3, 4, 5, 6]]))))))
 (.seq (.ops [⟨(some 155), .mv (.t 0), none, false, []⟩,
   ⟨(some 156), .call (.c (.func 43 [] [])) [(.t 155), (.c (.str [125]))], none, false, []⟩] none)
 (.seq (.ops [⟨(some 157), .load true 6 (.t 10), none, false, []⟩,
   ⟨none, .store 6 (.t 2) (.t 157), none, false, []⟩] none)
 .ret)))))))) .skip)))))))))
 (.seq (.ops [⟨(some 158), .mv (.t 0), none, false, []⟩,
   ⟨(some 159), .call (.c (.func 74 [] [])) [(.t 158)], none, false, []⟩,
   ⟨(some 11), .alloc true [.int .i64 0, .int .i64 0, .str [], .int .i64 0, .pl [] 0 .nil, .pl [] 0 .nil], none, false, []⟩,
   ⟨none, .store 6 (.t 11) (.t 159), none, false, []⟩] none)
 (.seq (.block 3 (.loop (.seq (.seq (.ops [⟨(some 160), .mv (.t 0), none, false, []⟩,
   ⟨(some 161), .call (.c (.func 75 [] [])) [(.t 160)], none, false, []⟩] none)
 (.cond (.t 161) .skip (.exit 3)))
 (.block 4 (.seq (.ops [⟨(some 162), .mv (.t 0), none, false, []⟩,
   ⟨(some 163), .call (.c (.func 74 [] [])) [(.t 162)], none, false, []⟩,
   ⟨(some 12), .alloc true [.int .i64 0, .int .i64 0, .str [], .int .i64 0, .pl [] 0 .nil, .pl [] 0 .nil], none, false, []⟩,
   ⟨none, .store 6 (.t 12) (.t 163), none, false, []⟩] none)
 (.ops [⟨(some 164), .faddr 1 (.t 11), none, false, []⟩,
   ⟨(some 165), .load false 1 (.t 164), none, false, []⟩,
   ⟨(some 166), .load true 6 (.t 11), none, false, []⟩,
   ⟨(some 167), .load true 6 (.t 12), none, false, []⟩,
   ⟨(some 168), .bslice false 2 [.int .i64 0, .int .i64 0, .str [], .int .i64 0, .pl [] 0 .nil, .pl [] 0 .nil, .int .i64 0, .int .i64 0, .str [], .int .i64 0, .pl [] 0 .nil, .pl [] 0 .nil] [(0, 6, (.t 166)), (6, 6, (.t 167))], none, false, []⟩,
   ⟨(some 169), .build [.int .i64 0, .int .i64 0, .str [], .int .i64 0, .pl [] 0 .nil, .pl [] 0 .nil] [(0, 1, (.c (.int .i64 5))), (1, 1, (.t 165)), (4, 1, (.t 168))], none, false, []⟩,
   ⟨none, .store 6 (.t 11) (.t 169), none, false, []⟩] none))))))
 (.seq (.ops [⟨(some 170), .load true 6 (.t 11), none, false, []⟩,
   ⟨none, .store 6 (.t 2) (.t 170), none, false, []⟩] none)
 .ret))))))) }
/- warpref9.tooDeep -/
def f48 : AFunc :=
 { np := 1, ntmps := 98, results := [.tmp 2], frz := false, body :=
 (.seq (.ops [⟨(some 1), .box true (.t 0), none, false, []⟩,
   ⟨(some 2), .mv (.c (.int .i64 0)), none, false, []⟩] none)
 (.seq (.ops [⟨(some 3), .mv (.c (.int .i64 (-1))), none, false, []⟩] none)
 (.seq (.seq (.ops [⟨(some 4), .mv (.c (.int .i64 0)), none, false, []⟩] none)
 (.block 0 (.loop (.seq (.seq (.ops [⟨(some 9), .mv (.t 4), none, false, []⟩,
   ⟨(some 10), .faddr 1 (.t 1), none, false, []⟩,
   ⟨(some 11), .load false 1 (.t 10), none, false, []⟩,
   ⟨(some 12), .len 1 (.t 11), none, false, []⟩,
   ⟨(some 13), .bin .sc .lss (.t 9) (.t 12), none, false, []⟩] none)
 (.cond (.t 13) .skip (.exit 0)))
 (.seq (.block 1 (.seq (.ops [⟨(some 16), .faddr 1 (.t 1), none, false, []⟩,
   ⟨(some 17), .load false 1 (.t 16), none, false, []⟩,
   ⟨(some 18), .mv (.t 4), none, false, []⟩,
   ⟨(some 19), .iaddr none 8 (.t 17) (.t 18), none, false, []⟩,
   ⟨(some 20), .faddr 2 (.t 19), none, false, []⟩,
   ⟨(some 21), .load true 6 (.t 20), none, false, []⟩,
   ⟨(some 22), .call (.c (.func 76 [] [])) [(.t 21)], none, false, []⟩,
   ⟨(some 23), .bin .sc .gtr (.t 22) (.c (.int .i64 60)), none, false, []⟩,
   ⟨(some 24), .mv (.t 23), none, false, []⟩,
   ⟨(some 25), .mv (.t 3), (some (24, true)), false, []⟩,
   ⟨(some 26), .bin .sc .lss (.t 25) (.c (.int .i64 0)), (some (24, true)), false, []⟩,
   ⟨(some 27), .mv (.t 26), (some (24, true)), false, []⟩,
   ⟨(some 28), .faddr 1 (.t 1), (some (27, false)), false, []⟩,
   ⟨(some 29), .load false 1 (.t 28), (some (27, false)), false, []⟩,
   ⟨(some 30), .mv (.t 4), (some (27, false)), false, []⟩,
   ⟨(some 31), .iaddr none 8 (.t 29) (.t 30), (some (27, false)), false, []⟩,
   ⟨(some 32), .faddr 1 (.t 31), (some (27, false)), false, []⟩,
   ⟨(some 33), .load false 1 (.t 32), (some (27, false)), false, []⟩,
   ⟨(some 34), .mv (.t 3), (some (27, false)), false, []⟩,
   ⟨(some 35), .bin .sc .lss (.t 33) (.t 34), (some (27, false)), false, []⟩,
   ⟨(some 36), .pick (.t 27) (.c (.bool true)) (.t 35), (some (24, true)), false, []⟩,
   ⟨(some 37), .pick (.t 24) (.t 36) (.c (.bool false)), none, false, []⟩] none)
 (.cond (.t 37) (.ops [⟨(some 38), .faddr 1 (.t 1), none, false, []⟩,
   ⟨(some 39), .load false 1 (.t 38), none, false, []⟩,
   ⟨(some 40), .mv (.t 4), none, false, []⟩,
   ⟨(some 41), .iaddr none 8 (.t 39) (.t 40), none, false, []⟩,
   ⟨(some 42), .faddr 1 (.t 41), none, false, []⟩,
   ⟨(some 43), .load false 1 (.t 42), none, false, []⟩,
   ⟨(some 3), .mv (.t 43), none, false, []⟩] none) .skip)))
 (.ops [⟨(some 14), .mv (.t 4), none, false, []⟩,
   ⟨(some 15), .bin .sc .add (.t 14) (.c (.int .i64 1)), none, false, []⟩,
   ⟨(some 4), .mv (.t 15), none, false, []⟩] none))))))
 (.seq (.seq (.ops [⟨(some 5), .mv (.c (.int .i64 0)), none, false, []⟩] none)
 (.block 2 (.loop (.seq (.seq (.ops [⟨(some 44), .mv (.t 5), none, false, []⟩,
   ⟨(some 45), .faddr 0 (.t 1), none, false, []⟩,
   ⟨(some 46), .load false 1 (.t 45), none, false, []⟩,
   ⟨(some 47), .len 1 (.t 46), none, false, []⟩,
   ⟨(some 48), .bin .sc .lss (.t 44) (.t 47), none, false, []⟩] none)
 (.cond (.t 48) .skip (.exit 2)))
 (.seq (.block 3 (.seq (.ops [⟨(some 6), .mv (.c (.int .i64 0)), none, false, []⟩] none)
 (.block 4 (.loop (.seq (.seq (.ops [⟨(some 51), .mv (.t 6), none, false, []⟩,
   ⟨(some 52), .faddr 0 (.t 1), none, false, []⟩,
   ⟨(some 53), .load false 1 (.t 52), none, false, []⟩,
   ⟨(some 54), .mv (.t 5), none, false, []⟩,
   ⟨(some 55), .iaddr none 4 (.t 53) (.t 54), none, false, []⟩,
   ⟨(some 56), .faddr 3 (.t 55), none, false, []⟩,
   ⟨(some 57), .load false 1 (.t 56), none, false, []⟩,
   ⟨(some 58), .len 1 (.t 57), none, false, []⟩,
   ⟨(some 59), .bin .sc .lss (.t 51) (.t 58), none, false, []⟩] none)
 (.cond (.t 59) .skip (.exit 4)))
 (.seq (.block 5 (.seq (.ops [⟨(some 62), .faddr 0 (.t 1), none, false, []⟩,
   ⟨(some 63), .load false 1 (.t 62), none, false, []⟩,
   ⟨(some 64), .mv (.t 5), none, false, []⟩,
   ⟨(some 65), .iaddr none 4 (.t 63) (.t 64), none, false, []⟩,
   ⟨(some 66), .faddr 3 (.t 65), none, false, []⟩,
   ⟨(some 67), .load false 1 (.t 66), none, false, []⟩,
   ⟨(some 68), .mv (.t 6), none, false, []⟩,
   ⟨(some 69), .iaddr none 3 (.t 67) (.t 68), none, false, []⟩,
   ⟨(some 70), .load true 3 (.t 69), none, false, []⟩,
   ⟨(some 7), .alloc true [.str [], .int .i64 0, .pl [] 0 .nil], none, false, []⟩,
   ⟨none, .store 3 (.t 7) (.t 70), none, false, []⟩] none)
 (.seq (.ops [⟨(some 8), .mv (.c (.int .i64 0)), none, false, []⟩] none)
 (.block 6 (.loop (.seq (.seq (.ops [⟨(some 71), .mv (.t 8), none, false, []⟩,
   ⟨(some 72), .faddr 2 (.t 7), none, false, []⟩,
   ⟨(some 73), .load false 1 (.t 72), none, false, []⟩,
   ⟨(some 74), .len 1 (.t 73), none, false, []⟩,
   ⟨(some 75), .bin .sc .lss (.t 71) (.t 74), none, false, []⟩] none)
 (.cond (.t 75) .skip (.exit 6)))
 (.seq (.block 7 (.seq (.ops [⟨(some 78), .faddr 2 (.t 7), none, false, []⟩,
   ⟨(some 79), .load false 1 (.t 78), none, false, []⟩,
   ⟨(some 80), .mv (.t 8), none, false, []⟩,
   ⟨(some 81), .iaddr none 4 (.t 79) (.t 80), none, false, []⟩,
   ⟨(some 82), .load true 4 (.t 81), none, false, []⟩,
   ⟨(some 83), .call (.c (.func 77 [] [])) [(.t 82)], none, false, []⟩,
   ⟨(some 84), .bin .sc .gtr (.t 83) (.c (.int .i64 60)), none, false, []⟩,
   ⟨(some 85), .mv (.t 84), none, false, []⟩,
   ⟨(some 86), .mv (.t 3), (some (85, true)), false, []⟩,
   ⟨(some 87), .bin .sc .lss (.t 86) (.c (.int .i64 0)), (some (85, true)), false, []⟩,
   ⟨(some 88), .mv (.t 87), (some (85, true)), false, []⟩,
   ⟨(some 89), .faddr 1 (.t 7), (some (88, false)), false, []⟩,
   ⟨(some 90), .load false 1 (.t 89), (some (88, false)), false, []⟩,
   ⟨(some 91), .mv (.t 3), (some (88, false)), false, []⟩,
   ⟨(some 92), .bin .sc .lss (.t 90) (.t 91), (some (88, false)), false, []⟩,
   ⟨(some 93), .pick (.t 88) (.c (.bool true)) (.t 92), (some (85, true)), false, []⟩,
   ⟨(some 94), .pick (.t 85) (.t 93) (.c (.bool false)), none, false, []⟩] none)
 (.cond (.t 94) (.ops [⟨(some 95), .faddr 1 (.t 7), none, false, []⟩,
   ⟨(some 96), .load false 1 (.t 95), none, false, []⟩,
   ⟨(some 3), .mv (.t 96), none, false, []⟩] none) .skip)))
 (.ops [⟨(some 76), .mv (.t 8), none, false, []⟩,
   ⟨(some 77), .bin .sc .add (.t 76) (.c (.int .i64 1)), none, false, []⟩,
   ⟨(some 8), .mv (.t 77), none, false, []⟩] none))))))))
 (.ops [⟨(some 60), .mv (.t 6), none, false, []⟩,
   ⟨(some 61), .bin .sc .add (.t 60) (.c (.int .i64 1)), none, false, []⟩,
   ⟨(some 6), .mv (.t 61), none, false, []⟩] none)))))))
 (.ops [⟨(some 49), .mv (.t 5), none, false, []⟩,
   ⟨(some 50), .bin .sc .add (.t 49) (.c (.int .i64 1)), none, false, []⟩,
   ⟨(some 5), .mv (.t 50), none, false, []⟩] none))))))
 (.seq (.ops [⟨(some 97), .mv (.t 3), none, false, []⟩,
   ⟨(some 2), .mv (.t 97), none, false, []⟩] none)
 .ret))))) }
/- (*infer.solver).variable -/
def f49 : AFunc :=
 { np := 1, ntmps := 10, results := [.tmp 2], frz := false, body :=
 (.seq (.ops [⟨(some 2), .mv (.c (.int .i64 0)), none, false, []⟩] none)
 (.seq (.ops [⟨(some 3), .mv (.t 0), none, false, []⟩,
   ⟨(some 4), .mv (.t 0), none, false, []⟩,
   ⟨(some 5), .nilck (.t 4), none, false, []⟩,
   ⟨(some 6), .faddr 2 (.t 5), none, false, []⟩,
   ⟨(some 7), .load false 1 (.t 6), none, false, []⟩,
   ⟨(some 8), .build [.bool false, .str [], .pl [] 0 .nil, .int .i64 0] [(3, 1, (.t 7))], none, false, []⟩,
   ⟨(some 9), .call (.c (.func 78 [] [])) [(.t 3), (.t 8)], none, false, []⟩,
   ⟨(some 2), .mv (.t 9), none, false, []⟩] none)
 .ret)) }
/- (*infer.solver).one -/
def f50 : AFunc :=
 { np := 3, ntmps := 160, results := [.tmp 6], frz := false, body :=
 (.seq (.ops [⟨(some 6), .mv (.c (.bool false)), none, false, []⟩] none)
 (.seq (.ops [⟨(some 19), .mkmap, none, false, []⟩,
   ⟨(some 7), .mv (.t 19), none, false, []⟩] none)
 (.seq (.seq (.ops [⟨(some 20), .mv (.t 1), none, false, []⟩,
   ⟨(some 21), .mv (.t 2), none, false, []⟩,
   ⟨(some 22), .build [.int .i64 0, .int .i64 0] [(0, 1, (.t 20)), (1, 1, (.t 21))], none, false, []⟩,
   ⟨(some 23), .bslice true 1 [.int .i64 0, .int .i64 0] [(0, 2, (.t 22))], none, false, []⟩,
   ⟨(some 8), .mv (.t 23), none, false, []⟩] none)
 (.block 0 (.loop (.seq (.seq (.ops [⟨(some 24), .mv (.t 8), none, false, []⟩,
   ⟨(some 25), .len 1 (.t 24), none, false, []⟩,
   ⟨(some 26), .bin .sc .gtr (.t 25) (.c (.int .i64 0)), none, false, []⟩] none)
 (.cond (.t 26) .skip (.exit 0)))
 (.block 1 (.seq (.ops [⟨(some 27), .mv (.t 8), none, false, []⟩,
   ⟨(some 28), .mv (.t 8), none, false, []⟩,
   ⟨(some 29), .len 1 (.t 28), none, false, []⟩,
   ⟨(some 30), .bin .sc .sub (.t 29) (.c (.int .i64 1)), none, false, []⟩,
   ⟨(some 31), .iaddr none 2 (.t 27) (.t 30), none, false, []⟩,
   ⟨(some 32), .load true 2 (.t 31), none, false, []⟩,
   ⟨(some 9), .alloc true [.int .i64 0, .int .i64 0], none, false, []⟩,
   ⟨none, .store 2 (.t 9) (.t 32), none, false, []⟩] none)
 (.seq (.ops [⟨(some 33), .mv (.t 8), none, false, []⟩,
   ⟨(some 34), .mv (.t 8), none, false, []⟩,
   ⟨(some 35), .len 1 (.t 34), none, false, []⟩,
   ⟨(some 36), .bin .sc .sub (.t 35) (.c (.int .i64 1)), none, false, []⟩,
   ⟨(some 37), .sliceL 2 (.t 33) none (some (.t 36)) none, none, false, []⟩,
   ⟨(some 8), .mv (.t 37), none, false, []⟩] none)
 (.seq (.ops [⟨(some 38), .mv (.t 0), none, false, []⟩,
   ⟨(some 39), .iaddr (some 2) 1 (.t 9) (.c (.int .i64 0)), none, false, []⟩,
   ⟨(some 40), .load false 1 (.t 39), none, false, []⟩,
   ⟨(some 41), .call (.c (.func 58 [] [])) [(.t 38), (.t 40)], none, false, []⟩,
   ⟨(some 42), .mv (.t 0), none, false, []⟩,
   ⟨(some 43), .iaddr (some 2) 1 (.t 9) (.c (.int .i64 1)), none, false, []⟩,
   ⟨(some 44), .load false 1 (.t 43), none, true, []⟩,
   ⟨(some 45), .call (.c (.func 58 [] [])) [(.t 42), (.t 44)], none, false, []⟩,
   ⟨(some 10), .mv (.t 41), none, false, []⟩,
   ⟨(some 11), .mv (.t 45), none, false, []⟩] (some [[], [], [1], [0, 1, 2], [], [], [5], [0, 1, 2, 3, 4, 5, 6], [0, 1, 2, 3, 4, 5, 6, 7], [0, 1, 2, 3, 4, 5, 6, 7, 8]]))
 (.seq (.ops [⟨(some 46), .mv (.t 10), none, false, []⟩,
   ⟨(some 47), .mv (.t 11), none, false, []⟩,
   ⟨(some 48), .min [(.t 46), (.t 47)], none, false, []⟩,
   ⟨(some 49), .mv (.t 10), none, false, []⟩,
   ⟨(some 50), .mv (.t 11), none, false, []⟩,
   ⟨(some 51), .max [(.t 49), (.t 50)], none, false, []⟩,
   ⟨(some 52), .build [.int .i64 0, .int .i64 0] [(0, 1, (.t 48)), (1, 1, (.t 51))], none, false, []⟩,
   ⟨(some 12), .alloc true [.int .i64 0, .int .i64 0], none, false, []⟩,
   ⟨none, .store 2 (.t 12) (.t 52), none, false, []⟩] none)
 (.seq (.seq (.ops [⟨(some 53), .mv (.t 10), none, false, []⟩,
   ⟨(some 54), .mv (.t 11), none, false, []⟩,
   ⟨(some 55), .bin .sc .eql (.t 53) (.t 54), none, false, []⟩,
   ⟨(some 56), .mv (.t 55), none, false, []⟩,
   ⟨(some 57), .mv (.t 7), (some (56, false)), false, []⟩,
   ⟨(some 58), .load true 2 (.t 12), (some (56, false)), false, []⟩,
   ⟨(some 59), .lookup (.flat [.i .i64, .i .i64]) (.bool false) false (.t 57) (.t 58), (some (56, false)), false, []⟩,
   ⟨(some 60), .pick (.t 56) (.c (.bool true)) (.t 59), none, false, []⟩] none)
 (.cond (.t 60) (.exit 1) .skip))
 (.seq (.ops [⟨(some 61), .mv (.t 0), none, false, []⟩,
   ⟨(some 62), .nilck (.t 61), none, false, []⟩,
   ⟨(some 63), .faddr 0 (.t 62), none, false, []⟩,
   ⟨(some 64), .load false 1 (.t 63), none, false, []⟩,
   ⟨(some 65), .mv (.t 10), none, false, []⟩,
   ⟨(some 66), .iaddr none 4 (.t 64) (.t 65), none, false, []⟩,
   ⟨(some 67), .load true 4 (.t 66), none, false, []⟩,
   ⟨(some 68), .mv (.t 0), none, false, []⟩,
   ⟨(some 69), .nilck (.t 68), none, false, []⟩,
   ⟨(some 70), .faddr 0 (.t 69), none, false, []⟩,
   ⟨(some 71), .load false 1 (.t 70), none, false, [13]⟩,
   ⟨(some 72), .mv (.t 11), none, false, []⟩,
   ⟨(some 73), .iaddr none 4 (.t 71) (.t 72), none, false, []⟩,
   ⟨(some 74), .load true 4 (.t 73), none, false, [13]⟩,
   ⟨(some 13), .alloc true [.bool false, .str [], .pl [] 0 .nil, .int .i64 0], none, false, []⟩,
   ⟨(some 14), .alloc true [.bool false, .str [], .pl [] 0 .nil, .int .i64 0], none, false, []⟩,
   ⟨none, .store 4 (.t 13) (.t 67), none, false, [13]⟩,
   ⟨none, .store 4 (.t 14) (.t 74), none, false, []⟩] (some [[], [0], [0, 1], [0, 1, 2], [], [0, 1, 2, 3, 4], [0, 1, 2, 3, 4, 5], [], [7], [7, 8], [7, 8, 9], [], [7, 8, 9, 10, 11], [7, 8, 9, 10, 11, 12], [], [], [0, 1, 2, 3, 4, 5, 6, 14, 15], [0, 1, 2, 3, 4, 5, 6, 7, 8, 9, 10, 11, 12, 13, 14, 15, 16]]))
 (.block 2 (.seq (.ops [⟨(some 81), .faddr 0 (.t 13), none, false, []⟩,
   ⟨(some 82), .load false 1 (.t 81), none, false, []⟩,
   ⟨(some 83), .mv (.t 82), none, false, []⟩,
   ⟨(some 84), .faddr 0 (.t 14), (some (83, true)), false, []⟩,
   ⟨(some 85), .load false 1 (.t 84), (some (83, true)), false, []⟩,
   ⟨(some 86), .pick (.t 83) (.t 85) (.c (.bool false)), none, false, []⟩,
   ⟨(some 80), .mv (.t 86), none, false, []⟩] none)
 (.cond (.t 80) (.seq (.seq (.ops [⟨(some 87), .faddr 1 (.t 13), none, false, []⟩,
   ⟨(some 88), .load false 1 (.t 87), none, false, []⟩,
   ⟨(some 89), .faddr 1 (.t 14), none, false, []⟩,
   ⟨(some 90), .load false 1 (.t 89), none, false, []⟩,
   ⟨(some 91), .bin .sc .neq (.t 88) (.t 90), none, false, []⟩,
   ⟨(some 92), .mv (.t 91), none, false, []⟩,
   ⟨(some 93), .faddr 2 (.t 13), (some (92, false)), false, []⟩,
   ⟨(some 94), .load false 1 (.t 93), (some (92, false)), false, []⟩,
   ⟨(some 95), .len 1 (.t 94), (some (92, false)), false, []⟩,
   ⟨(some 96), .faddr 2 (.t 14), (some (92, false)), false, []⟩,
   ⟨(some 97), .load false 1 (.t 96), (some (92, false)), false, []⟩,
   ⟨(some 98), .len 1 (.t 97), (some (92, false)), false, []⟩,
   ⟨(some 99), .bin .sc .neq (.t 95) (.t 98), (some (92, false)), false, []⟩,
   ⟨(some 100), .pick (.t 92) (.c (.bool true)) (.t 99), none, false, []⟩] none)
 (.cond (.t 100) (.seq (.ops [⟨(some 6), .mv (.c (.bool false)), none, false, []⟩] none)
 .ret) .skip))
 (.seq (.ops [⟨(some 101), .mv (.t 7), none, false, []⟩,
   ⟨(some 102), .load true 2 (.t 12), none, false, []⟩,
   ⟨none, .mupd (.flat [.i .i64, .i .i64]) (.t 101) (.t 102) (.c (.bool true)), none, false, []⟩] none)
 (.seq (.ops [⟨(some 103), .faddr 2 (.t 13), none, false, []⟩,
   ⟨(some 104), .load false 1 (.t 103), none, false, []⟩,
   ⟨(some 105), .len 1 (.t 104), none, false, []⟩,
   ⟨(some 106), .mv (.c (.int .i64 0)), none, false, []⟩] none)
 (.block 3 (.loop (.seq (.ops [⟨(some 107), .bin .sc .lss (.t 106) (.t 105), none, false, []⟩] none)
 (.seq (.cond (.t 107) .skip (.exit 3))
 (.seq (.block 4 (.seq (.ops [⟨(some 108), .mv (.t 106), none, false, []⟩,
   ⟨(some 15), .mv (.t 108), none, false, []⟩] none)
 (.ops [⟨(some 109), .mv (.t 8), none, false, []⟩,
   ⟨(some 110), .faddr 2 (.t 13), none, false, []⟩,
   ⟨(some 111), .load false 1 (.t 110), none, false, []⟩,
   ⟨(some 112), .mv (.t 15), none, false, []⟩,
   ⟨(some 113), .iaddr none 1 (.t 111) (.t 112), none, false, []⟩,
   ⟨(some 114), .load false 1 (.t 113), none, false, []⟩,
   ⟨(some 115), .faddr 2 (.t 14), none, false, []⟩,
   ⟨(some 116), .load false 1 (.t 115), none, false, []⟩,
   ⟨(some 117), .mv (.t 15), none, false, []⟩,
   ⟨(some 118), .iaddr none 1 (.t 116) (.t 117), none, false, []⟩,
   ⟨(some 119), .load false 1 (.t 118), none, false, []⟩,
   ⟨(some 120), .build [.int .i64 0, .int .i64 0] [(0, 1, (.t 114)), (1, 1, (.t 119))], none, false, []⟩,
   ⟨(some 121), .bslice false 1 [.int .i64 0, .int .i64 0] [(0, 2, (.t 120))], none, false, []⟩,
   ⟨(some 122), .app true 2 16 (.t 109) (.t 121), none, false, []⟩,
   ⟨(some 8), .mv (.t 122), none, false, []⟩] (some [[], [], [1], [], [1, 2, 3], [1, 2, 3, 4], [], [6], [], [6, 7, 8], [6, 7, 8, 9], [1, 2, 3, 4, 5, 6, 7, 8, 9, 10], [1, 2, 3, 4, 5, 6, 7, 8, 9, 10, 11], [0, 1, 2, 3, 4, 5, 6, 7, 8, 9, 10, 11, 12], [0, 1, 2, 3, 4, 5, 6, 7, 8, 9, 10, 11, 12, 13]]))))
 (.ops [⟨(some 123), .bin .sc .add (.t 106) (.c (.int .i64 1)), none, false, []⟩,
   ⟨(some 106), .mv (.t 123), none, false, []⟩] none))))))))) (.seq (.ops [⟨(some 125), .faddr 0 (.t 13), none, false, []⟩,
   ⟨(some 126), .load false 1 (.t 125), none, false, []⟩,
   ⟨(some 124), .mv (.t 126), none, false, []⟩] none)
 (.cond (.t 124) (.seq (.ops [⟨(some 127), .mv (.t 0), none, false, []⟩,
   ⟨(some 128), .mv (.t 11), none, false, []⟩,
   ⟨(some 129), .mv (.t 10), none, false, []⟩,
   ⟨(some 130), .call (.c (.func 79 [] [])) [(.t 127), (.t 128), (.t 129)], none, false, []⟩,
   ⟨(some 131), .not (.t 130), none, false, []⟩] none)
 (.cond (.t 131) (.seq (.ops [⟨(some 6), .mv (.c (.bool false)), none, false, []⟩] none)
 .ret) .skip)) (.seq (.ops [⟨(some 75), .mv (.t 0), none, false, []⟩,
   ⟨(some 76), .mv (.t 10), none, false, []⟩,
   ⟨(some 77), .mv (.t 11), none, false, []⟩,
   ⟨(some 78), .call (.c (.func 79 [] [])) [(.t 75), (.t 76), (.t 77)], none, false, []⟩,
   ⟨(some 79), .not (.t 78), none, false, []⟩] none)
 (.cond (.t 79) (.seq (.ops [⟨(some 6), .mv (.c (.bool false)), none, false, []⟩] none)
 .ret) .skip))))))))))))))))))
 (.seq (.seq (.ops [⟨(some 132), .mv (.t 7), none, false, []⟩,
   ⟨(some 133), .call (.c (.func 1000001 [] [])) [(.t 132)], none, false, []⟩] none)
 (.block 5 (.loop (.seq (.ops [⟨(some 134), .call (.c (.func 1000002 [] [])) [(.t 133)], none, false, []⟩,
   ⟨(some 135), .extract 0 (.t 134), none, false, []⟩] none)
 (.seq (.cond (.t 135) .skip (.exit 5))
 (.block 6 (.seq (.ops [⟨(some 136), .call (.c (.func 1000003 [] [])) [(.t 133)], none, false, []⟩,
   ⟨(some 137), .extract 0 (.t 136), none, false, []⟩,
   ⟨(some 16), .alloc true [.int .i64 0, .int .i64 0], none, false, []⟩,
   ⟨none, .store 2 (.t 16) (.t 137), none, false, []⟩] none)
 (.seq (.ops [⟨(some 138), .mv (.t 0), none, false, []⟩,
   ⟨(some 139), .iaddr (some 2) 1 (.t 16) (.c (.int .i64 0)), none, false, []⟩,
   ⟨(some 140), .load false 1 (.t 139), none, false, []⟩,
   ⟨(some 141), .call (.c (.func 58 [] [])) [(.t 138), (.t 140)], none, false, []⟩,
   ⟨(some 142), .mv (.t 0), none, false, []⟩,
   ⟨(some 143), .iaddr (some 2) 1 (.t 16) (.c (.int .i64 1)), none, false, []⟩,
   ⟨(some 144), .load false 1 (.t 143), none, true, []⟩,
   ⟨(some 145), .call (.c (.func 58 [] [])) [(.t 142), (.t 144)], none, false, []⟩,
   ⟨(some 17), .mv (.t 141), none, false, []⟩,
   ⟨(some 18), .mv (.t 145), none, false, []⟩] (some [[], [], [1], [0, 1, 2], [], [], [5], [0, 1, 2, 3, 4, 5, 6], [0, 1, 2, 3, 4, 5, 6, 7], [0, 1, 2, 3, 4, 5, 6, 7, 8]]))
 (.seq (.ops [⟨(some 146), .mv (.t 17), none, false, []⟩,
   ⟨(some 147), .mv (.t 18), none, false, []⟩,
   ⟨(some 148), .bin .sc .neq (.t 146) (.t 147), none, false, []⟩] none)
 (.cond (.t 148) (.ops [⟨(some 149), .mv (.t 0), none, false, []⟩,
   ⟨(some 150), .nilck (.t 149), none, false, []⟩,
   ⟨(some 151), .faddr 1 (.t 150), none, false, []⟩,
   ⟨(some 152), .load false 1 (.t 151), none, false, []⟩,
   ⟨(some 153), .mv (.t 17), none, false, []⟩,
   ⟨(some 154), .mv (.t 18), none, false, []⟩,
   ⟨(some 155), .max [(.t 153), (.t 154)], none, false, []⟩,
   ⟨(some 156), .mv (.t 17), none, false, []⟩,
   ⟨(some 157), .mv (.t 18), none, false, []⟩,
   ⟨(some 158), .min [(.t 156), (.t 157)], none, false, []⟩,
   ⟨(some 159), .iaddr none 1 (.t 152) (.t 155), none, false, []⟩,
   ⟨none, .store 1 (.t 159) (.t 158), none, false, []⟩] none) .skip))))))))))
 (.seq (.ops [⟨(some 6), .mv (.c (.bool true)), none, false, []⟩] none)
 .ret))))) }
/- (*infer.group).named -/
def f51 : AFunc :=
 { np := 2, ntmps := 54, results := [.tmp 4], frz := false, body :=
 (.seq (.ops [⟨(some 4), .mv (.c (.int .i64 0)), none, false, []⟩] none)
 (.seq (.seq (.ops [⟨(some 8), .mv (.t 0), none, false, []⟩,
   ⟨(some 9), .nilck (.t 8), none, false, []⟩,
   ⟨(some 10), .faddr 5 (.t 9), none, false, []⟩,
   ⟨(some 11), .load false 1 (.t 10), none, false, []⟩,
   ⟨(some 12), .mv (.t 1), none, false, []⟩,
   ⟨(some 13), .build [.str []] [(0, 1, (.t 12))], none, false, []⟩,
   ⟨(some 14), .lookup (.flat [.s]) (.pl [] 0 .nil) false (.t 11) (.t 13), none, false, []⟩,
   ⟨(some 5), .mv (.t 14), none, false, []⟩] none)
 (.seq (.ops [⟨(some 15), .mv (.t 5), none, false, []⟩,
   ⟨(some 16), .len 1 (.t 15), none, false, []⟩,
   ⟨(some 17), .bin .sc .gtr (.t 16) (.c (.int .i64 0)), none, false, []⟩] none)
 (.cond (.t 17) (.seq (.ops [⟨(some 18), .mv (.t 5), none, false, []⟩,
   ⟨(some 19), .mv (.t 5), none, false, []⟩,
   ⟨(some 20), .len 1 (.t 19), none, false, []⟩,
   ⟨(some 21), .bin .sc .sub (.t 20) (.c (.int .i64 1)), none, false, []⟩,
   ⟨(some 22), .iaddr none 2 (.t 18) (.t 21), none, false, []⟩,
   ⟨(some 23), .load true 2 (.t 22), none, false, []⟩,
   ⟨(some 6), .alloc true [.int .i64 0, .bool false], none, false, []⟩,
   ⟨none, .store 2 (.t 6) (.t 23), none, false, []⟩] none)
 (.seq (.seq (.ops [⟨(some 24), .faddr 1 (.t 6), none, false, []⟩,
   ⟨(some 25), .load false 1 (.t 24), none, false, []⟩] none)
 (.cond (.t 25) (.seq (.ops [⟨(some 26), .mv (.t 0), none, false, []⟩,
   ⟨(some 27), .nilck (.t 26), none, false, []⟩,
   ⟨(some 28), .faddr 0 (.t 27), none, false, []⟩,
   ⟨(some 29), .faddr 0 (.t 6), none, false, []⟩,
   ⟨(some 30), .load false 1 (.t 29), none, true, []⟩,
   ⟨(some 31), .mkmap, none, false, []⟩,
   ⟨(some 32), .call (.c (.func 80 [] [])) [(.t 28), (.t 30), (.t 31)], none, false, []⟩,
   ⟨(some 4), .mv (.t 32), none, false, []⟩] (some [[], [0], [0, 1], [], [3], [], [0, 1, 2, 3, 4, 5], [0, 1, 2, 3, 4, 5, 6]]))
 .ret) .skip))
 (.seq (.ops [⟨(some 33), .faddr 0 (.t 6), none, false, []⟩,
   ⟨(some 34), .load false 1 (.t 33), none, false, []⟩,
   ⟨(some 4), .mv (.t 34), none, false, []⟩] none)
 .ret))) .skip)))
 (.seq (.ops [⟨(some 35), .mv (.t 0), none, false, []⟩,
   ⟨(some 36), .nilck (.t 35), none, false, []⟩,
   ⟨(some 37), .faddr 3 (.t 36), none, false, []⟩,
   ⟨(some 38), .load false 1 (.t 37), none, false, []⟩,
   ⟨(some 39), .mv (.t 1), none, false, []⟩,
   ⟨(some 40), .build [.str []] [(0, 1, (.t 39))], none, false, []⟩,
   ⟨(some 41), .lookup (.flat [.s]) (.agg [.int .i64 0, .int .i64 0, .int .i64 0, .str [], .pl [] 0 .nil]) false (.t 38) (.t 40), none, false, []⟩,
   ⟨(some 7), .alloc true [.int .i64 0, .int .i64 0, .int .i64 0, .str [], .pl [] 0 .nil], none, false, []⟩,
   ⟨none, .store 5 (.t 7) (.t 41), none, false, []⟩] none)
 (.seq (.ops [⟨(some 42), .mv (.t 0), none, false, []⟩,
   ⟨(some 43), .nilck (.t 42), none, false, []⟩,
   ⟨(some 44), .faddr 0 (.t 43), none, false, []⟩,
   ⟨(some 45), .faddr 1 (.t 7), none, false, []⟩,
   ⟨(some 46), .load true 4 (.t 45), none, true, []⟩,
   ⟨(some 47), .mv (.t 0), none, false, []⟩,
   ⟨(some 48), .nilck (.t 47), none, false, []⟩,
   ⟨(some 49), .faddr 0 (.t 48), none, false, []⟩,
   ⟨(some 50), .faddr 0 (.t 7), none, false, []⟩,
   ⟨(some 51), .load false 1 (.t 50), none, false, []⟩,
   ⟨(some 52), .call (.c (.func 28 [] [])) [(.t 49), (.t 51)], none, false, []⟩,
   ⟨(some 53), .call (.c (.func 81 [] [])) [(.t 44), (.t 46), (.t 52)], none, false, []⟩,
   ⟨(some 4), .mv (.t 53), none, false, []⟩] (some [[], [0], [0, 1], [], [3], [], [5], [5, 6], [], [8], [5, 6, 7, 8, 9], [0, 1, 2, 3, 4, 5, 6, 7, 8, 9, 10], [0, 1, 2, 3, 4, 5, 6, 7, 8, 9, 10, 11]]))
 .ret)))) }
/- (*infer.group).made -/
def f52 : AFunc :=
 { np := 2, ntmps := 62, results := [.tmp 4, .tmp 5], frz := false, body :=
 (.seq (.ops [⟨(some 4), .mv (.c (.pl [] 0 .nil)), none, false, []⟩,
   ⟨(some 5), .mv (.c (.int .i64 0)), none, false, []⟩] none)
 (.seq (.ops [⟨(some 14), .mv (.t 0), none, false, []⟩,
   ⟨(some 15), .nilck (.t 14), none, false, []⟩,
   ⟨(some 16), .faddr 4 (.t 15), none, false, []⟩,
   ⟨(some 17), .load false 1 (.t 16), none, false, []⟩,
   ⟨(some 18), .mv (.t 1), none, false, []⟩,
   ⟨(some 19), .call (.c (.func 82 [] [])) [(.t 17), (.t 18)], none, false, []⟩,
   ⟨(some 13), .mv (.t 19), none, false, []⟩,
   ⟨(some 20), .extract 0 (.t 13), none, false, []⟩,
   ⟨(some 21), .extract 1 (.t 13), none, false, []⟩,
   ⟨(some 6), .mv (.t 20), none, false, []⟩,
   ⟨(some 7), .mv (.t 21), none, false, []⟩] none)
 (.seq (.ops [⟨(some 23), .mv (.t 0), none, false, []⟩,
   ⟨(some 24), .nilck (.t 23), none, false, []⟩,
   ⟨(some 25), .faddr 4 (.t 24), none, false, []⟩,
   ⟨(some 26), .load false 1 (.t 25), none, false, []⟩,
   ⟨(some 27), .mv (.t 6), none, false, []⟩,
   ⟨(some 28), .mv (.t 7), none, false, []⟩,
   ⟨(some 29), .call (.c (.func 83 [] [])) [(.t 26), (.t 27), (.t 28)], none, false, []⟩,
   ⟨(some 22), .mv (.t 29), none, false, []⟩,
   ⟨(some 30), .extract 0 (.t 22), none, false, []⟩,
   ⟨(some 31), .extract 1 (.t 22), none, false, []⟩,
   ⟨(some 9), .alloc true [.int .i64 0, .int .i64 0, .str [], .pl [] 0 .nil], none, false, []⟩,
   ⟨(some 8), .mv (.t 30), none, false, []⟩,
   ⟨none, .store 4 (.t 9) (.t 31), none, false, []⟩] none)
 (.seq (.ops [⟨(some 32), .mv (.t 0), none, false, []⟩,
   ⟨(some 33), .nilck (.t 32), none, false, []⟩,
   ⟨(some 34), .faddr 0 (.t 33), none, false, []⟩,
   ⟨(some 35), .faddr 3 (.t 9), none, false, []⟩,
   ⟨(some 36), .load false 1 (.t 35), none, false, []⟩,
   ⟨(some 37), .len 1 (.t 36), none, false, []⟩,
   ⟨(some 38), .call (.c (.func 28 [] [])) [(.t 34), (.t 37)], none, false, []⟩,
   ⟨(some 10), .mv (.t 38), none, false, []⟩] (some [[], [0], [0, 1], [], [3], [3, 4], [0, 1, 2, 3, 4, 5], [0, 1, 2, 3, 4, 5, 6]]))
 (.seq (.seq (.ops [⟨(some 39), .mv (.t 8), none, false, []⟩,
   ⟨(some 40), .len 1 (.t 39), none, false, []⟩,
   ⟨(some 41), .mv (.c (.int .i64 0)), none, false, []⟩] none)
 (.block 0 (.loop (.seq (.ops [⟨(some 42), .bin .sc .lss (.t 41) (.t 40), none, false, []⟩] none)
 (.seq (.cond (.t 42) .skip (.exit 0))
 (.seq (.block 1 (.seq (.ops [⟨(some 43), .iaddr none 4 (.t 39) (.t 41), none, false, []⟩,
   ⟨(some 44), .load true 4 (.t 43), none, false, []⟩,
   ⟨(some 12), .alloc true [.int .i64 0, .int .i64 0, .str [], .pl [] 0 .nil], none, false, []⟩,
   ⟨none, .store 4 (.t 12) (.t 44), none, false, []⟩] none)
 (.ops [⟨(some 45), .mv (.t 4), none, false, []⟩,
   ⟨(some 46), .mv (.t 0), none, false, []⟩,
   ⟨(some 47), .nilck (.t 46), none, false, []⟩,
   ⟨(some 48), .faddr 0 (.t 47), none, false, []⟩,
   ⟨(some 49), .load true 4 (.t 12), none, false, []⟩,
   ⟨(some 50), .mv (.t 10), none, false, []⟩,
   ⟨(some 51), .call (.c (.func 81 [] [])) [(.t 48), (.t 49), (.t 50)], none, false, []⟩,
   ⟨(some 52), .bslice false 1 [.int .i64 0] [(0, 1, (.t 51))], none, false, []⟩,
   ⟨(some 53), .app false 1 8 (.t 45) (.t 52), none, false, []⟩,
   ⟨(some 4), .mv (.t 53), none, false, []⟩] (some [[], [], [1], [1, 2], [], [], [1, 2, 3, 4, 5], [1, 2, 3, 4, 5, 6], [0, 1, 2, 3, 4, 5, 6, 7], [0, 1, 2, 3, 4, 5, 6, 7, 8]]))))
 (.ops [⟨(some 54), .bin .sc .add (.t 41) (.c (.int .i64 1)), none, false, []⟩,
   ⟨(some 41), .mv (.t 54), none, false, []⟩] none)))))))
 (.seq (.ops [⟨(some 55), .mv (.t 4), none, false, []⟩,
   ⟨(some 56), .mv (.t 0), none, false, []⟩,
   ⟨(some 57), .nilck (.t 56), none, false, []⟩,
   ⟨(some 58), .faddr 0 (.t 57), none, false, []⟩,
   ⟨(some 59), .load true 4 (.t 9), none, false, []⟩,
   ⟨(some 60), .mv (.t 10), none, false, []⟩,
   ⟨(some 61), .call (.c (.func 81 [] [])) [(.t 58), (.t 59), (.t 60)], none, false, []⟩,
   ⟨(some 4), .mv (.t 55), none, false, []⟩,
   ⟨(some 5), .mv (.t 61), none, false, []⟩] (some [[], [], [1], [1, 2], [], [], [1, 2, 3, 4, 5], [0, 1, 2, 3, 4, 5, 6], [0, 1, 2, 3, 4, 5, 6, 7]]))
 .ret)))))) }
/- (*infer.solver).con -/
def f53 : AFunc :=
 { np := 3, ntmps := 12, results := [.tmp 6], frz := false, body :=
 (.seq (.ops [⟨(some 6), .mv (.c (.int .i64 0)), none, false, []⟩] none)
 (.seq (.ops [⟨(some 7), .mv (.t 0), none, false, []⟩,
   ⟨(some 8), .mv (.t 1), none, false, []⟩,
   ⟨(some 9), .mv (.t 2), none, false, []⟩,
   ⟨(some 10), .build [.bool false, .str [], .pl [] 0 .nil, .int .i64 0] [(0, 1, (.c (.bool true))), (1, 1, (.t 8)), (2, 1, (.t 9))], none, false, []⟩,
   ⟨(some 11), .call (.c (.func 78 [] [])) [(.t 7), (.t 10)], none, false, []⟩,
   ⟨(some 6), .mv (.t 11), none, false, []⟩] none)
 .ret)) }
/- (*infer.group).kids -/
def f54 : AFunc :=
 { np := 2, ntmps := 23, results := [.tmp 4], frz := false, body :=
 (.seq (.ops [⟨(some 3), .box true (.t 1), none, false, []⟩,
   ⟨(some 4), .mv (.c (.pl [] 0 .nil)), none, false, []⟩] none)
 (.seq (.ops [⟨(some 5), .mv (.c (.pl [] 0 .nil)), none, false, []⟩] none)
 (.seq (.seq (.ops [⟨(some 8), .faddr 4 (.t 3), none, false, []⟩,
   ⟨(some 9), .load false 1 (.t 8), none, false, []⟩,
   ⟨(some 10), .len 1 (.t 9), none, false, []⟩,
   ⟨(some 11), .mv (.c (.int .i64 0)), none, false, []⟩] none)
 (.block 0 (.loop (.seq (.ops [⟨(some 12), .bin .sc .lss (.t 11) (.t 10), none, false, []⟩] none)
 (.seq (.cond (.t 12) .skip (.exit 0))
 (.seq (.block 1 (.seq (.ops [⟨(some 13), .iaddr none 6 (.t 9) (.t 11), none, false, []⟩,
   ⟨(some 14), .load true 6 (.t 13), none, false, []⟩,
   ⟨(some 7), .alloc true [.int .i64 0, .int .i64 0, .str [], .int .i64 0, .pl [] 0 .nil, .pl [] 0 .nil], none, false, []⟩,
   ⟨none, .store 6 (.t 7) (.t 14), none, false, []⟩] none)
 (.ops [⟨(some 15), .mv (.t 5), none, false, []⟩,
   ⟨(some 16), .mv (.t 0), none, false, []⟩,
   ⟨(some 17), .load true 6 (.t 7), none, false, []⟩,
   ⟨(some 18), .call (.c (.func 31 [] [])) [(.t 16), (.t 17)], none, false, []⟩,
   ⟨(some 19), .bslice false 1 [.int .i64 0] [(0, 1, (.t 18))], none, false, []⟩,
   ⟨(some 20), .app false 1 8 (.t 15) (.t 19), none, false, []⟩,
   ⟨(some 5), .mv (.t 20), none, false, []⟩] none)))
 (.ops [⟨(some 21), .bin .sc .add (.t 11) (.c (.int .i64 1)), none, false, []⟩,
   ⟨(some 11), .mv (.t 21), none, false, []⟩] none)))))))
 (.seq (.ops [⟨(some 22), .mv (.t 5), none, false, []⟩,
   ⟨(some 4), .mv (.t 22), none, false, []⟩] none)
 .ret)))) }
/- (*infer.group).pop -/
def f55 : AFunc :=
 { np := 2, ntmps := 23, results := [], frz := false, body :=
 (.seq (.ops [⟨(some 5), .mv (.t 0), none, false, []⟩,
   ⟨(some 6), .nilck (.t 5), none, false, []⟩,
   ⟨(some 7), .faddr 5 (.t 6), none, false, []⟩,
   ⟨(some 8), .load false 1 (.t 7), none, false, []⟩,
   ⟨(some 9), .mv (.t 1), none, false, []⟩,
   ⟨(some 10), .build [.str []] [(0, 1, (.t 9))], none, false, []⟩,
   ⟨(some 11), .lookup (.flat [.s]) (.pl [] 0 .nil) false (.t 8) (.t 10), none, false, []⟩,
   ⟨(some 4), .mv (.t 11), none, false, []⟩] none)
 (.ops [⟨(some 12), .mv (.t 0), none, false, []⟩,
   ⟨(some 13), .nilck (.t 12), none, false, []⟩,
   ⟨(some 14), .faddr 5 (.t 13), none, false, []⟩,
   ⟨(some 15), .load false 1 (.t 14), none, false, []⟩,
   ⟨(some 16), .mv (.t 1), none, false, []⟩,
   ⟨(some 17), .build [.str []] [(0, 1, (.t 16))], none, false, []⟩,
   ⟨(some 18), .mv (.t 4), none, false, []⟩,
   ⟨(some 19), .mv (.t 4), none, false, []⟩,
   ⟨(some 20), .len 1 (.t 19), none, false, []⟩,
   ⟨(some 21), .bin .sc .sub (.t 20) (.c (.int .i64 1)), none, false, []⟩,
   ⟨(some 22), .sliceL 2 (.t 18) none (some (.t 21)) none, none, false, []⟩,
   ⟨none, .mupd (.flat [.s]) (.t 15) (.t 17) (.t 22), none, false, []⟩] (some [[], [0], [0, 1], [0, 1, 2], [], [4], [], [], [7], [7, 8], [6, 7, 8, 9], [0, 1, 2, 3, 4, 5, 6, 7, 8, 9, 10]]))) }
/- (*infer.group).let -/
def f56 : AFunc :=
 { np := 2, ntmps := 73, results := [.tmp 4], frz := false, body :=
 (.seq (.ops [⟨(some 3), .box true (.t 1), none, false, []⟩,
   ⟨(some 4), .mv (.c (.int .i64 0)), none, false, []⟩] none)
 (.seq (.ops [⟨(some 7), .mv (.t 0), none, false, []⟩,
   ⟨(some 8), .nilck (.t 7), none, false, []⟩,
   ⟨(some 9), .faddr 0 (.t 8), none, false, []⟩,
   ⟨(some 10), .faddr 2 (.t 9), none, false, []⟩,
   ⟨(some 11), .load false 1 (.t 10), none, false, []⟩,
   ⟨(some 12), .bin .sc .add (.t 11) (.c (.int .i64 1)), none, false, []⟩,
   ⟨(some 13), .nilck (.t 7), none, false, []⟩,
   ⟨(some 14), .faddr 0 (.t 13), none, false, []⟩,
   ⟨(some 15), .faddr 2 (.t 14), none, false, []⟩,
   ⟨none, .store 1 (.t 15) (.t 12), none, false, []⟩] none)
 (.seq (.ops [⟨(some 16), .mv (.t 0), none, false, []⟩,
   ⟨(some 17), .faddr 4 (.t 3), none, false, []⟩,
   ⟨(some 18), .load false 1 (.t 17), none, false, []⟩,
   ⟨(some 19), .iaddr none 6 (.t 18) (.c (.int .i64 0)), none, false, []⟩,
   ⟨(some 20), .load true 6 (.t 19), none, false, []⟩,
   ⟨(some 21), .call (.c (.func 31 [] [])) [(.t 16), (.t 20)], none, false, []⟩,
   ⟨(some 5), .mv (.t 21), none, false, []⟩] none)
 (.seq (.ops [⟨(some 22), .mv (.t 0), none, false, []⟩,
   ⟨(some 23), .nilck (.t 22), none, false, []⟩,
   ⟨(some 24), .faddr 0 (.t 23), none, false, []⟩,
   ⟨(some 25), .faddr 2 (.t 24), none, false, []⟩,
   ⟨(some 26), .load false 1 (.t 25), none, false, []⟩,
   ⟨(some 27), .bin .sc .sub (.t 26) (.c (.int .i64 1)), none, false, []⟩,
   ⟨(some 28), .nilck (.t 22), none, false, []⟩,
   ⟨(some 29), .faddr 0 (.t 28), none, false, []⟩,
   ⟨(some 30), .faddr 2 (.t 29), none, false, []⟩,
   ⟨none, .store 1 (.t 30) (.t 27), none, false, []⟩] none)
 (.seq (.seq (.ops [⟨(some 31), .mv (.t 0), none, false, []⟩,
   ⟨(some 32), .mv (.t 0), none, false, []⟩,
   ⟨(some 33), .nilck (.t 32), none, false, []⟩,
   ⟨(some 34), .faddr 6 (.t 33), none, false, []⟩,
   ⟨(some 35), .load false 1 (.t 34), none, false, []⟩,
   ⟨(some 36), .mv (.t 35), none, false, []⟩,
   ⟨(some 37), .mv (.t 0), (some (36, false)), false, []⟩,
   ⟨(some 38), .nilck (.t 37), (some (36, false)), false, []⟩,
   ⟨(some 39), .faddr 0 (.t 38), (some (36, false)), false, []⟩,
   ⟨(some 40), .mv (.t 5), (some (36, false)), false, []⟩,
   ⟨(some 41), .call (.c (.func 32 [] [])) [(.t 39), (.t 40)], (some (36, false)), false, []⟩,
   ⟨(some 42), .not (.t 41), (some (36, false)), false, []⟩,
   ⟨(some 43), .pick (.t 36) (.c (.bool true)) (.t 42), none, false, []⟩,
   ⟨(some 44), .nilck (.t 31), none, false, []⟩,
   ⟨(some 45), .faddr 6 (.t 44), none, false, []⟩,
   ⟨none, .store 1 (.t 45) (.t 43), none, false, []⟩] none)
 (.seq (.ops [⟨(some 46), .mv (.t 0), none, false, []⟩,
   ⟨(some 47), .nilck (.t 46), none, false, []⟩,
   ⟨(some 48), .faddr 6 (.t 47), none, false, []⟩,
   ⟨(some 49), .load false 1 (.t 48), none, false, []⟩] none)
 (.cond (.t 49) (.seq (.ops [⟨(some 50), .mv (.t 5), none, false, []⟩,
   ⟨(some 4), .mv (.t 50), none, false, []⟩] none)
 .ret) .skip)))
 (.seq (.ops [⟨(some 51), .mv (.t 0), none, false, []⟩,
   ⟨(some 52), .nilck (.t 51), none, false, []⟩,
   ⟨(some 53), .faddr 0 (.t 52), none, false, []⟩,
   ⟨(some 54), .mv (.t 5), none, false, []⟩,
   ⟨(some 55), .call (.c (.func 84 [] [])) [(.t 53), (.t 54)], none, false, []⟩] none)
 (.seq (.ops [⟨(some 56), .mv (.t 0), none, false, []⟩,
   ⟨(some 57), .faddr 2 (.t 3), none, false, []⟩,
   ⟨(some 58), .load false 1 (.t 57), none, false, []⟩,
   ⟨(some 59), .mv (.t 5), none, false, []⟩,
   ⟨(some 60), .build [.int .i64 0, .bool false] [(0, 1, (.t 59)), (1, 1, (.c (.bool true)))], none, false, []⟩,
   ⟨(some 61), .call (.c (.func 29 [] [])) [(.t 56), (.t 58), (.t 60)], none, false, []⟩] none)
 (.seq (.ops [⟨(some 62), .mv (.t 0), none, false, []⟩,
   ⟨(some 63), .faddr 4 (.t 3), none, false, []⟩,
   ⟨(some 64), .load false 1 (.t 63), none, false, []⟩,
   ⟨(some 65), .iaddr none 6 (.t 64) (.c (.int .i64 1)), none, false, []⟩,
   ⟨(some 66), .load true 6 (.t 65), none, false, []⟩,
   ⟨(some 67), .call (.c (.func 31 [] [])) [(.t 62), (.t 66)], none, false, []⟩,
   ⟨(some 6), .mv (.t 67), none, false, []⟩] none)
 (.seq (.ops [⟨(some 68), .mv (.t 0), none, false, []⟩,
   ⟨(some 69), .faddr 2 (.t 3), none, false, []⟩,
   ⟨(some 70), .load false 1 (.t 69), none, false, []⟩,
   ⟨(some 71), .call (.c (.func 55 [] [])) [(.t 68), (.t 70)], none, false, []⟩] none)
 (.seq (.ops [⟨(some 72), .mv (.t 6), none, false, []⟩,
   ⟨(some 4), .mv (.t 72), none, false, []⟩] none)
 .ret)))))))))) }
/- (*infer.group).alt -/
def f57 : AFunc :=
 { np := 4, ntmps := 64, results := [], frz := false, body :=
 (.seq (.ops [⟨(some 5), .box true (.t 1), none, false, []⟩] none)
 (.seq (.ops [⟨(some 15), .mv (.t 0), none, false, []⟩,
   ⟨(some 16), .faddr 1 (.t 5), none, false, []⟩,
   ⟨(some 17), .load false 1 (.t 16), none, false, []⟩,
   ⟨(some 18), .call (.c (.func 52 [] [])) [(.t 15), (.t 17)], none, false, []⟩,
   ⟨(some 14), .mv (.t 18), none, false, []⟩,
   ⟨(some 19), .extract 0 (.t 14), none, false, []⟩,
   ⟨(some 20), .extract 1 (.t 14), none, false, []⟩,
   ⟨(some 8), .mv (.t 19), none, false, []⟩,
   ⟨(some 9), .mv (.t 20), none, false, []⟩] none)
 (.seq (.ops [⟨(some 21), .mv (.t 0), none, false, []⟩,
   ⟨(some 22), .mv (.t 9), none, false, []⟩,
   ⟨(some 23), .mv (.t 2), none, false, []⟩,
   ⟨(some 24), .call (.c (.func 30 [] [])) [(.t 21), (.t 22), (.t 23)], none, false, []⟩] none)
 (.seq (.seq (.ops [⟨(some 25), .mv (.t 0), none, false, []⟩,
   ⟨(some 26), .nilck (.t 25), none, false, []⟩,
   ⟨(some 27), .faddr 6 (.t 26), none, false, []⟩,
   ⟨(some 28), .load false 1 (.t 27), none, false, []⟩] none)
 (.cond (.t 28) .ret .skip))
 (.seq (.seq (.ops [⟨(some 29), .faddr 2 (.t 5), none, false, []⟩,
   ⟨(some 30), .load false 1 (.t 29), none, false, []⟩,
   ⟨(some 31), .len 1 (.t 30), none, false, []⟩,
   ⟨(some 32), .mv (.c (.int .i64 0)), none, false, []⟩] none)
 (.block 0 (.loop (.seq (.ops [⟨(some 33), .bin .sc .lss (.t 32) (.t 31), none, false, []⟩] none)
 (.seq (.cond (.t 33) .skip (.exit 0))
 (.seq (.block 1 (.seq (.ops [⟨(some 34), .mv (.t 32), none, false, []⟩,
   ⟨(some 35), .iaddr none 1 (.t 30) (.t 32), none, false, []⟩,
   ⟨(some 36), .load false 1 (.t 35), none, false, []⟩,
   ⟨(some 10), .mv (.t 34), none, false, []⟩,
   ⟨(some 11), .mv (.t 36), none, false, []⟩] none)
 (.ops [⟨(some 37), .mv (.t 0), none, false, []⟩,
   ⟨(some 38), .mv (.t 11), none, false, []⟩,
   ⟨(some 39), .mv (.t 8), none, false, []⟩,
   ⟨(some 40), .mv (.t 10), none, false, []⟩,
   ⟨(some 41), .iaddr none 1 (.t 39) (.t 40), none, false, []⟩,
   ⟨(some 42), .load false 1 (.t 41), none, false, []⟩,
   ⟨(some 43), .build [.int .i64 0, .bool false] [(0, 1, (.t 42))], none, false, []⟩,
   ⟨(some 44), .call (.c (.func 29 [] [])) [(.t 37), (.t 38), (.t 43)], none, false, []⟩] none)))
 (.ops [⟨(some 45), .bin .sc .add (.t 32) (.c (.int .i64 1)), none, false, []⟩,
   ⟨(some 32), .mv (.t 45), none, false, []⟩] none)))))))
 (.seq (.ops [⟨(some 46), .mv (.t 0), none, false, []⟩,
   ⟨(some 47), .mv (.t 0), none, false, []⟩,
   ⟨(some 48), .faddr 3 (.t 5), none, false, []⟩,
   ⟨(some 49), .load true 6 (.t 48), none, false, []⟩,
   ⟨(some 50), .call (.c (.func 31 [] [])) [(.t 47), (.t 49)], none, false, []⟩,
   ⟨(some 51), .mv (.t 3), none, false, []⟩,
   ⟨(some 52), .call (.c (.func 30 [] [])) [(.t 46), (.t 50), (.t 51)], none, false, []⟩] none)
 (.seq (.ops [⟨(some 53), .faddr 2 (.t 5), none, false, []⟩,
   ⟨(some 54), .load false 1 (.t 53), none, false, []⟩,
   ⟨(some 55), .len 1 (.t 54), none, false, []⟩,
   ⟨(some 56), .mv (.c (.int .i64 0)), none, false, []⟩] none)
 (.block 2 (.loop (.seq (.ops [⟨(some 57), .bin .sc .lss (.t 56) (.t 55), none, false, []⟩] none)
 (.seq (.cond (.t 57) .skip (.exit 2))
 (.seq (.block 3 (.seq (.ops [⟨(some 58), .iaddr none 1 (.t 54) (.t 56), none, false, []⟩,
   ⟨(some 59), .load false 1 (.t 58), none, false, []⟩,
   ⟨(some 13), .mv (.t 59), none, false, []⟩] none)
 (.ops [⟨(some 60), .mv (.t 0), none, false, []⟩,
   ⟨(some 61), .mv (.t 13), none, false, []⟩,
   ⟨(some 62), .call (.c (.func 55 [] [])) [(.t 60), (.t 61)], none, false, []⟩] none)))
 (.ops [⟨(some 63), .bin .sc .add (.t 56) (.c (.int .i64 1)), none, false, []⟩,
   ⟨(some 56), .mv (.t 63), none, false, []⟩] none))))))))))))) }
/- (*infer.solver).root -/
def f58 : AFunc :=
 { np := 2, ntmps := 41, results := [.tmp 4], frz := false, body :=
 (.seq (.ops [⟨(some 4), .mv (.c (.int .i64 0)), none, false, []⟩] none)
 (.seq (.block 0 (.loop (.seq (.seq (.ops [⟨(some 5), .mv (.t 0), none, false, []⟩,
   ⟨(some 6), .nilck (.t 5), none, false, []⟩,
   ⟨(some 7), .faddr 1 (.t 6), none, false, []⟩,
   ⟨(some 8), .load false 1 (.t 7), none, false, []⟩,
   ⟨(some 9), .mv (.t 1), none, false, []⟩,
   ⟨(some 10), .iaddr none 1 (.t 8) (.t 9), none, false, []⟩,
   ⟨(some 11), .load false 1 (.t 10), none, false, []⟩,
   ⟨(some 12), .mv (.t 1), none, false, []⟩,
   ⟨(some 13), .bin .sc .neq (.t 11) (.t 12), none, false, []⟩] none)
 (.cond (.t 13) .skip (.exit 0)))
 (.block 1 (.seq (.ops [⟨(some 14), .mv (.t 0), none, false, []⟩,
   ⟨(some 15), .nilck (.t 14), none, false, []⟩,
   ⟨(some 16), .faddr 1 (.t 15), none, false, []⟩,
   ⟨(some 17), .load false 1 (.t 16), none, false, []⟩,
   ⟨(some 18), .mv (.t 1), none, false, []⟩,
   ⟨(some 19), .mv (.t 0), none, false, []⟩,
   ⟨(some 20), .nilck (.t 19), none, false, []⟩,
   ⟨(some 21), .faddr 1 (.t 20), none, false, []⟩,
   ⟨(some 22), .load false 1 (.t 21), none, false, []⟩,
   ⟨(some 23), .mv (.t 0), none, false, []⟩,
   ⟨(some 24), .nilck (.t 23), none, false, []⟩,
   ⟨(some 25), .faddr 1 (.t 24), none, false, []⟩,
   ⟨(some 26), .load false 1 (.t 25), none, false, []⟩,
   ⟨(some 27), .mv (.t 1), none, false, []⟩,
   ⟨(some 28), .iaddr none 1 (.t 26) (.t 27), none, false, []⟩,
   ⟨(some 29), .load false 1 (.t 28), none, false, []⟩,
   ⟨(some 30), .iaddr none 1 (.t 22) (.t 29), none, false, []⟩,
   ⟨(some 31), .load false 1 (.t 30), none, false, []⟩,
   ⟨(some 32), .iaddr none 1 (.t 17) (.t 18), none, false, []⟩,
   ⟨none, .store 1 (.t 32) (.t 31), none, false, []⟩] (some [[], [0], [0, 1], [0, 1, 2], [], [], [5], [5, 6], [5, 6, 7], [], [9], [9, 10], [9, 10, 11], [], [9, 10, 11, 12, 13], [9, 10, 11, 12, 13, 14], [5, 6, 7, 8, 9, 10, 11, 12, 13, 14, 15], [5, 6, 7, 8, 9, 10, 11, 12, 13, 14, 15, 16], [0, 1, 2, 3, 4, 5, 6, 7, 8, 9, 10, 11, 12, 13, 14, 15, 16, 17], [0, 1, 2, 3, 4, 5, 6, 7, 8, 9, 10, 11, 12, 13, 14, 15, 16, 17, 18]]))
 (.ops [⟨(some 33), .mv (.t 0), none, false, []⟩,
   ⟨(some 34), .nilck (.t 33), none, false, []⟩,
   ⟨(some 35), .faddr 1 (.t 34), none, false, []⟩,
   ⟨(some 36), .load false 1 (.t 35), none, false, []⟩,
   ⟨(some 37), .mv (.t 1), none, false, []⟩,
   ⟨(some 38), .iaddr none 1 (.t 36) (.t 37), none, false, []⟩,
   ⟨(some 39), .load false 1 (.t 38), none, false, []⟩,
   ⟨(some 1), .mv (.t 39), none, false, []⟩] none))))))
 (.seq (.ops [⟨(some 40), .mv (.t 1), none, false, []⟩,
   ⟨(some 4), .mv (.t 40), none, false, []⟩] none)
 .ret))) }
/- term.Canon -/
def f59 : AFunc :=
 { np := 1, ntmps := 22, results := [.cell 2 4 true], frz := false, body :=
 (.seq (.ops [⟨(some 1), .box true (.t 0), none, false, []⟩,
   ⟨(some 2), .alloc true [.int .i64 0, .int .i64 0, .str [], .pl [] 0 .nil], none, false, []⟩] none)
 (.seq (.ops [⟨(some 6), .mkmap, none, false, []⟩,
   ⟨(some 3), .alloc false [.nilm], none, false, []⟩,
   ⟨none, .store 1 (.t 3) (.t 6), none, false, []⟩] none)
 (.seq (.seq (.ops [⟨(some 7), .load true 4 (.t 1), none, false, []⟩,
   ⟨(some 8), .call (.c (.func 60 [] [])) [(.t 7)], none, false, []⟩,
   ⟨(some 9), .len 1 (.t 8), none, false, []⟩,
   ⟨(some 10), .mv (.c (.int .i64 0)), none, false, []⟩] none)
 (.block 0 (.loop (.seq (.ops [⟨(some 11), .bin .sc .lss (.t 10) (.t 9), none, false, []⟩] none)
 (.seq (.cond (.t 11) .skip (.exit 0))
 (.seq (.block 1 (.seq (.ops [⟨(some 12), .mv (.t 10), none, false, []⟩,
   ⟨(some 13), .iaddr none 1 (.t 8) (.t 10), none, false, []⟩,
   ⟨(some 14), .load false 1 (.t 13), none, false, []⟩,
   ⟨(some 4), .mv (.t 12), none, false, []⟩,
   ⟨(some 5), .mv (.t 14), none, false, []⟩] none)
 (.ops [⟨(some 15), .load false 1 (.t 3), none, false, []⟩,
   ⟨(some 16), .mv (.t 5), none, false, []⟩,
   ⟨(some 17), .mv (.t 4), none, false, []⟩,
   ⟨none, .mupd (.one (.i .i64)) (.t 15) (.t 16) (.t 17), none, false, []⟩] none)))
 (.ops [⟨(some 18), .bin .sc .add (.t 10) (.c (.int .i64 1)), none, false, []⟩,
   ⟨(some 10), .mv (.t 18), none, false, []⟩] none)))))))
 (.seq (.ops [⟨(some 19), .load true 4 (.t 1), none, false, []⟩,
   ⟨(some 20), .mkfun 86 [] [(.t 3)], none, false, []⟩,
   ⟨(some 21), .call (.c (.func 85 [] [])) [(.t 19), (.t 20)], none, false, []⟩,
   ⟨none, .store 4 (.t 2) (.t 21), none, false, []⟩] none)
 .ret)))) }
/- term.Vars -/
def f60 : AFunc :=
 { np := 1, ntmps := 10, results := [.tmp 2], frz := false, body :=
 (.seq (.ops [⟨(some 1), .box true (.t 0), none, false, []⟩,
   ⟨(some 2), .mv (.c (.pl [] 0 .nil)), none, false, []⟩] none)
 (.seq (.ops [⟨(some 5), .mkmap, none, false, []⟩,
   ⟨(some 3), .alloc false [.nilm], none, false, []⟩,
   ⟨none, .store 1 (.t 3) (.t 5), none, false, []⟩] none)
 (.seq (.ops [⟨(some 4), .alloc false [.pl [] 0 .nil], none, false, []⟩] none)
 (.seq (.ops [⟨(some 6), .load true 4 (.t 1), none, false, []⟩,
   ⟨(some 7), .mkfun 88 [] [(.t 3), (.t 4)], none, false, []⟩,
   ⟨(some 8), .call (.c (.func 87 [] [])) [(.t 6), (.t 7)], none, false, []⟩] none)
 (.seq (.ops [⟨(some 9), .load false 1 (.t 4), none, false, []⟩,
   ⟨(some 2), .mv (.t 9), none, false, []⟩] none)
 .ret))))) }
/- warpref15.place -/
def f61 : AFunc :=
 { np := 2, ntmps := 19, results := [.tmp 4], frz := false, body :=
 (.seq (.ops [⟨(some 4), .mv (.c (.int .i64 0)), none, false, []⟩] none)
 (.seq (.seq (.ops [⟨(some 5), .mv (.c (.int .i64 0)), none, false, []⟩] none)
 (.block 0 (.loop (.seq (.seq (.ops [⟨(some 6), .mv (.t 5), none, false, []⟩,
   ⟨(some 7), .mv (.t 0), none, false, []⟩,
   ⟨(some 8), .len 1 (.t 7), none, false, []⟩,
   ⟨(some 9), .bin .sc .lss (.t 6) (.t 8), none, false, []⟩] none)
 (.cond (.t 9) .skip (.exit 0)))
 (.seq (.block 1 (.seq (.ops [⟨(some 12), .mv (.t 0), none, false, []⟩,
   ⟨(some 13), .mv (.t 5), none, false, []⟩,
   ⟨(some 14), .iaddr none 1 (.t 12) (.t 13), none, false, []⟩,
   ⟨(some 15), .load false 1 (.t 14), none, false, []⟩,
   ⟨(some 16), .mv (.t 1), none, false, []⟩,
   ⟨(some 17), .bin .sc .eql (.t 15) (.t 16), none, false, []⟩] none)
 (.cond (.t 17) (.seq (.ops [⟨(some 18), .mv (.t 5), none, false, []⟩,
   ⟨(some 4), .mv (.t 18), none, false, []⟩] none)
 .ret) .skip)))
 (.ops [⟨(some 10), .mv (.t 5), none, false, []⟩,
   ⟨(some 11), .bin .sc .add (.t 10) (.c (.int .i64 1)), none, false, []⟩,
   ⟨(some 5), .mv (.t 11), none, false, []⟩] none))))))
 (.seq (.ops [⟨(some 4), .mv (.c (.int .i64 (-1))), none, false, []⟩] none)
 .ret))) }
/- warpref9.lower -/
def f62 : AFunc :=
 { np := 1, ntmps := 9, results := [.tmp 2], frz := false, body :=
 (.seq (.ops [⟨(some 2), .mv (.c (.bool false)), none, false, []⟩] none)
 (.seq (.ops [⟨(some 3), .mv (.t 0), none, false, []⟩,
   ⟨(some 4), .bin .sc .geq (.t 3) (.c (.int .u8 97)), none, false, []⟩,
   ⟨(some 5), .mv (.t 4), none, false, []⟩,
   ⟨(some 6), .mv (.t 0), (some (5, true)), false, []⟩,
   ⟨(some 7), .bin .sc .leq (.t 6) (.c (.int .u8 122)), (some (5, true)), false, []⟩,
   ⟨(some 8), .pick (.t 5) (.t 7) (.c (.bool false)), none, false, []⟩,
   ⟨(some 2), .mv (.t 8), none, false, []⟩] none)
 .ret)) }
/- warpref9.upper -/
def f63 : AFunc :=
 { np := 1, ntmps := 9, results := [.tmp 2], frz := false, body :=
 (.seq (.ops [⟨(some 2), .mv (.c (.bool false)), none, false, []⟩] none)
 (.seq (.ops [⟨(some 3), .mv (.t 0), none, false, []⟩,
   ⟨(some 4), .bin .sc .geq (.t 3) (.c (.int .u8 65)), none, false, []⟩,
   ⟨(some 5), .mv (.t 4), none, false, []⟩,
   ⟨(some 6), .mv (.t 0), (some (5, true)), false, []⟩,
   ⟨(some 7), .bin .sc .leq (.t 6) (.c (.int .u8 90)), (some (5, true)), false, []⟩,
   ⟨(some 8), .pick (.t 5) (.t 7) (.c (.bool false)), none, false, []⟩,
   ⟨(some 2), .mv (.t 8), none, false, []⟩] none)
 .ret)) }
/- warpref9.rest -/
def f64 : AFunc :=
 { np := 1, ntmps := 17, results := [.tmp 2], frz := false, body :=
 (.seq (.ops [⟨(some 2), .mv (.c (.bool false)), none, false, []⟩] none)
 (.seq (.ops [⟨(some 3), .mv (.t 0), none, false, []⟩,
   ⟨(some 4), .call (.c (.func 62 [] [])) [(.t 3)], none, false, []⟩,
   ⟨(some 5), .mv (.t 4), none, false, []⟩,
   ⟨(some 6), .mv (.t 0), (some (5, false)), false, []⟩,
   ⟨(some 7), .call (.c (.func 63 [] [])) [(.t 6)], (some (5, false)), false, []⟩,
   ⟨(some 8), .pick (.t 5) (.c (.bool true)) (.t 7), none, false, []⟩,
   ⟨(some 9), .mv (.t 8), none, false, []⟩,
   ⟨(some 10), .mv (.t 0), (some (9, false)), false, []⟩,
   ⟨(some 11), .call (.c (.func 68 [] [])) [(.t 10)], (some (9, false)), false, []⟩,
   ⟨(some 12), .pick (.t 9) (.c (.bool true)) (.t 11), none, false, []⟩,
   ⟨(some 13), .mv (.t 12), none, false, []⟩,
   ⟨(some 14), .mv (.t 0), (some (13, false)), false, []⟩,
   ⟨(some 15), .bin .sc .eql (.t 14) (.c (.int .u8 95)), (some (13, false)), false, []⟩,
   ⟨(some 16), .pick (.t 13) (.c (.bool true)) (.t 15), none, false, []⟩,
   ⟨(some 2), .mv (.t 16), none, false, []⟩] none)
 .ret)) }
/- warpref9.word -/
def f65 : AFunc :=
 { np := 1, ntmps := 15, results := [.tmp 2], frz := false, body :=
 (.seq (.ops [⟨(some 2), .mv (.c (.bool false)), none, false, []⟩] none)
 (.seq (.seq (.ops [⟨(some 3), .mv (.t 0), none, false, []⟩] none)
 (.block 0 (.seq (.seq (.ops [⟨(some 5), .bin .sc .eql (.t 3) (.c (.str [100, 97, 116, 97])), none, false, []⟩,
   ⟨(some 4), .mv (.t 5), none, false, []⟩] none)
 (.cond (.t 4) .skip (.seq (.ops [⟨(some 6), .bin .sc .eql (.t 3) (.c (.str [108, 101, 116])), none, false, []⟩,
   ⟨(some 4), .mv (.t 6), none, false, []⟩] none)
 (.cond (.t 4) .skip (.seq (.ops [⟨(some 7), .bin .sc .eql (.t 3) (.c (.str [105, 110])), none, false, []⟩,
   ⟨(some 4), .mv (.t 7), none, false, []⟩] none)
 (.cond (.t 4) .skip (.seq (.ops [⟨(some 8), .bin .sc .eql (.t 3) (.c (.str [105, 102])), none, false, []⟩,
   ⟨(some 4), .mv (.t 8), none, false, []⟩] none)
 (.cond (.t 4) .skip (.seq (.ops [⟨(some 9), .bin .sc .eql (.t 3) (.c (.str [116, 104, 101, 110])), none, false, []⟩,
   ⟨(some 4), .mv (.t 9), none, false, []⟩] none)
 (.cond (.t 4) .skip (.seq (.ops [⟨(some 10), .bin .sc .eql (.t 3) (.c (.str [101, 108, 115, 101])), none, false, []⟩,
   ⟨(some 4), .mv (.t 10), none, false, []⟩] none)
 (.cond (.t 4) .skip (.seq (.ops [⟨(some 11), .bin .sc .eql (.t 3) (.c (.str [99, 97, 115, 101])), none, false, []⟩,
   ⟨(some 4), .mv (.t 11), none, false, []⟩] none)
 (.cond (.t 4) .skip (.seq (.ops [⟨(some 12), .bin .sc .eql (.t 3) (.c (.str [111, 102])), none, false, []⟩,
   ⟨(some 4), .mv (.t 12), none, false, []⟩] none)
 (.cond (.t 4) .skip (.seq (.ops [⟨(some 13), .bin .sc .eql (.t 3) (.c (.str [116, 114, 117, 101])), none, false, []⟩,
   ⟨(some 4), .mv (.t 13), none, false, []⟩] none)
 (.cond (.t 4) .skip (.ops [⟨(some 14), .bin .sc .eql (.t 3) (.c (.str [102, 97, 108, 115, 101])), none, false, []⟩,
   ⟨(some 4), .mv (.t 14), none, false, []⟩] none)))))))))))))))))))
 (.cond (.t 4) (.seq (.ops [⟨(some 2), .mv (.c (.bool true)), none, false, []⟩] none)
 .ret) .skip))))
 (.seq (.ops [⟨(some 2), .mv (.c (.bool false)), none, false, []⟩] none)
 .ret))) }
/- warpref9.Name -/
def f66 : AFunc :=
 { np := 1, ntmps := 15, results := [.tmp 2], frz := false, body :=
 (.seq (.ops [⟨(some 2), .mv (.c (.bool false)), none, false, []⟩] none)
 (.seq (.ops [⟨(some 3), .mv (.t 0), none, false, []⟩,
   ⟨(some 4), .call (.c (.func 89 [] [])) [(.t 3)], none, false, []⟩,
   ⟨(some 5), .mv (.t 4), none, false, []⟩,
   ⟨(some 6), .mv (.t 0), (some (5, true)), false, []⟩,
   ⟨(some 7), .index (.t 6) (.c (.int .i64 0)), (some (5, true)), false, []⟩,
   ⟨(some 8), .call (.c (.func 62 [] [])) [(.t 7)], (some (5, true)), false, []⟩,
   ⟨(some 9), .pick (.t 5) (.t 8) (.c (.bool false)), none, false, []⟩,
   ⟨(some 10), .mv (.t 9), none, false, []⟩,
   ⟨(some 11), .mv (.t 0), (some (10, true)), false, []⟩,
   ⟨(some 12), .call (.c (.func 65 [] [])) [(.t 11)], (some (10, true)), false, []⟩,
   ⟨(some 13), .not (.t 12), (some (10, true)), false, []⟩,
   ⟨(some 14), .pick (.t 10) (.t 13) (.c (.bool false)), none, false, []⟩,
   ⟨(some 2), .mv (.t 14), none, false, []⟩] none)
 .ret)) }
/- warpref9.Con -/
def f67 : AFunc :=
 { np := 1, ntmps := 10, results := [.tmp 2], frz := false, body :=
 (.seq (.ops [⟨(some 2), .mv (.c (.bool false)), none, false, []⟩] none)
 (.seq (.ops [⟨(some 3), .mv (.t 0), none, false, []⟩,
   ⟨(some 4), .call (.c (.func 89 [] [])) [(.t 3)], none, false, []⟩,
   ⟨(some 5), .mv (.t 4), none, false, []⟩,
   ⟨(some 6), .mv (.t 0), (some (5, true)), false, []⟩,
   ⟨(some 7), .index (.t 6) (.c (.int .i64 0)), (some (5, true)), false, []⟩,
   ⟨(some 8), .call (.c (.func 63 [] [])) [(.t 7)], (some (5, true)), false, []⟩,
   ⟨(some 9), .pick (.t 5) (.t 8) (.c (.bool false)), none, false, []⟩,
   ⟨(some 2), .mv (.t 9), none, false, []⟩] none)
 .ret)) }
/- warpref9.digit -/
def f68 : AFunc :=
 { np := 1, ntmps := 9, results := [.tmp 2], frz := false, body :=
 (.seq (.ops [⟨(some 2), .mv (.c (.bool false)), none, false, []⟩] none)
 (.seq (.ops [⟨(some 3), .mv (.t 0), none, false, []⟩,
   ⟨(some 4), .bin .sc .geq (.t 3) (.c (.int .u8 48)), none, false, []⟩,
   ⟨(some 5), .mv (.t 4), none, false, []⟩,
   ⟨(some 6), .mv (.t 0), (some (5, true)), false, []⟩,
   ⟨(some 7), .bin .sc .leq (.t 6) (.c (.int .u8 57)), (some (5, true)), false, []⟩,
   ⟨(some 8), .pick (.t 5) (.t 7) (.c (.bool false)), none, false, []⟩,
   ⟨(some 2), .mv (.t 8), none, false, []⟩] none)
 .ret)) }
/- warpref9.number -/
def f69 : AFunc :=
 { np := 1, ntmps := 30, results := [.tmp 2], frz := false, body :=
 (.seq (.ops [⟨(some 2), .mv (.c (.int .i64 0)), none, false, []⟩] none)
 (.seq (.ops [⟨(some 3), .mv (.c (.int .i64 0)), none, false, []⟩] none)
 (.seq (.seq (.ops [⟨(some 4), .mv (.c (.int .i64 0)), none, false, []⟩] none)
 (.block 0 (.loop (.seq (.seq (.ops [⟨(some 5), .mv (.t 4), none, false, []⟩,
   ⟨(some 6), .mv (.t 0), none, false, []⟩,
   ⟨(some 7), .len 0 (.t 6), none, false, []⟩,
   ⟨(some 8), .bin .sc .lss (.t 5) (.t 7), none, false, []⟩] none)
 (.cond (.t 8) .skip (.exit 0)))
 (.seq (.block 1 (.seq (.ops [⟨(some 11), .mv (.t 3), none, false, []⟩,
   ⟨(some 12), .bin .sc .mul (.t 11) (.c (.int .i64 10)), none, false, []⟩,
   ⟨(some 13), .mv (.t 0), none, false, []⟩,
   ⟨(some 14), .mv (.t 4), none, false, []⟩,
   ⟨(some 15), .index (.t 13) (.t 14), none, false, []⟩,
   ⟨(some 16), .bin .sc .sub (.t 15) (.c (.int .u8 48)), none, false, []⟩,
   ⟨(some 17), .cint .i64 (.t 16), none, false, []⟩,
   ⟨(some 18), .bin .sc .add (.t 12) (.t 17), none, false, []⟩,
   ⟨(some 3), .mv (.t 18), none, false, []⟩] none)
 (.seq (.ops [⟨(some 19), .mv (.t 3), none, false, []⟩,
   ⟨(some 20), .bin .sc .gtr (.t 19) (.c (.int .i64 2147483647)), none, false, []⟩] none)
 (.cond (.t 20) (.seq (.ops [⟨(some 2), .mv (.c (.int .i64 (-1))), none, false, []⟩] none)
 .ret) .skip))))
 (.ops [⟨(some 9), .mv (.t 4), none, false, []⟩,
   ⟨(some 10), .bin .sc .add (.t 9) (.c (.int .i64 1)), none, false, []⟩,
   ⟨(some 4), .mv (.t 10), none, false, []⟩] none))))))
 (.seq (.seq (.ops [⟨(some 21), .mv (.t 0), none, false, []⟩,
   ⟨(some 22), .len 0 (.t 21), none, false, []⟩,
   ⟨(some 23), .bin .sc .gtr (.t 22) (.c (.int .i64 1)), none, false, []⟩,
   ⟨(some 24), .mv (.t 23), none, false, []⟩,
   ⟨(some 25), .mv (.t 0), (some (24, true)), false, []⟩,
   ⟨(some 26), .index (.t 25) (.c (.int .i64 0)), (some (24, true)), false, []⟩,
   ⟨(some 27), .bin .sc .eql (.t 26) (.c (.int .u8 48)), (some (24, true)), false, []⟩,
   ⟨(some 28), .pick (.t 24) (.t 27) (.c (.bool false)), none, false, []⟩] none)
 (.cond (.t 28) (.seq (.ops [⟨(some 2), .mv (.c (.int .i64 (-1))), none, false, []⟩] none)
 .ret) .skip))
 (.seq (.ops [⟨(some 29), .mv (.t 3), none, false, []⟩,
   ⟨(some 2), .mv (.t 29), none, false, []⟩] none)
 .ret))))) }
/- (*warpref9.parser).fail -/
def f70 : AFunc :=
 { np := 1, ntmps := 41, results := [], frz := false, body :=
 (.seq (.ops [⟨(some 2), .mv (.t 0), none, false, []⟩,
   ⟨(some 3), .nilck (.t 2), none, false, []⟩,
   ⟨(some 4), .faddr 3 (.t 3), none, false, []⟩,
   ⟨(some 5), .load false 1 (.t 4), none, false, []⟩,
   ⟨(some 6), .not (.t 5), none, false, []⟩] none)
 (.cond (.t 6) (.seq (.ops [⟨(some 7), .mv (.t 0), none, false, []⟩,
   ⟨(some 8), .nilck (.t 7), none, false, []⟩,
   ⟨(some 9), .faddr 3 (.t 8), none, false, []⟩,
   ⟨none, .store 1 (.t 9) (.c (.bool true)), none, false, []⟩] none)
 (.seq (.ops [⟨(some 10), .mv (.t 0), none, false, []⟩,
   ⟨(some 11), .mv (.t 0), none, false, []⟩,
   ⟨(some 12), .nilck (.t 11), none, false, []⟩,
   ⟨(some 13), .faddr 2 (.t 12), none, false, []⟩,
   ⟨(some 14), .load false 1 (.t 13), none, false, []⟩,
   ⟨(some 15), .nilck (.t 10), none, false, []⟩,
   ⟨(some 16), .faddr 4 (.t 15), none, false, []⟩,
   ⟨none, .store 1 (.t 16) (.t 14), none, false, []⟩] none)
 (.seq (.ops [⟨(some 17), .mv (.t 0), none, false, []⟩,
   ⟨(some 18), .nilck (.t 17), none, false, []⟩,
   ⟨(some 19), .faddr 1 (.t 18), none, false, []⟩,
   ⟨(some 20), .load false 1 (.t 19), none, false, []⟩,
   ⟨(some 21), .mv (.t 0), none, false, []⟩,
   ⟨(some 22), .nilck (.t 21), none, false, []⟩,
   ⟨(some 23), .faddr 0 (.t 22), none, false, []⟩,
   ⟨(some 24), .load false 1 (.t 23), none, false, []⟩,
   ⟨(some 25), .len 1 (.t 24), none, false, []⟩,
   ⟨(some 26), .bin .sc .lss (.t 20) (.t 25), none, false, []⟩] (some [[], [0], [0, 1], [0, 1, 2], [], [4], [4, 5], [4, 5, 6], [4, 5, 6, 7], [0, 1, 2, 3, 4, 5, 6, 7, 8]]))
 (.cond (.t 26) (.ops [⟨(some 27), .mv (.t 0), none, false, []⟩,
   ⟨(some 28), .mv (.t 0), none, false, []⟩,
   ⟨(some 29), .nilck (.t 28), none, false, []⟩,
   ⟨(some 30), .faddr 0 (.t 29), none, false, []⟩,
   ⟨(some 31), .load false 1 (.t 30), none, false, []⟩,
   ⟨(some 32), .mv (.t 0), none, false, []⟩,
   ⟨(some 33), .nilck (.t 32), none, false, []⟩,
   ⟨(some 34), .faddr 1 (.t 33), none, false, []⟩,
   ⟨(some 35), .load false 1 (.t 34), none, false, []⟩,
   ⟨(some 36), .iaddr none 4 (.t 31) (.t 35), none, false, []⟩,
   ⟨(some 37), .faddr 1 (.t 36), none, false, []⟩,
   ⟨(some 38), .load false 1 (.t 37), none, false, []⟩,
   ⟨(some 39), .nilck (.t 27), none, false, []⟩,
   ⟨(some 40), .faddr 4 (.t 39), none, false, []⟩,
   ⟨none, .store 1 (.t 40) (.t 38), none, false, []⟩] (some [[], [], [1], [1, 2], [1, 2, 3], [], [5], [5, 6], [5, 6, 7], [1, 2, 3, 4, 5, 6, 7, 8], [1, 2, 3, 4, 5, 6, 7, 8, 9], [1, 2, 3, 4, 5, 6, 7, 8, 9, 10], [0, 1, 2, 3, 4, 5, 6, 7, 8, 9, 10, 11], [0, 1, 2, 3, 4, 5, 6, 7, 8, 9, 10, 11, 12], [0, 1, 2, 3, 4, 5, 6, 7, 8, 9, 10, 11, 12, 13]])) .skip)))) .skip)) }
/- (*warpref9.parser).atypic -/
def f71 : AFunc :=
 { np := 1, ntmps := 13, results := [.tmp 2], frz := false, body :=
 (.seq (.ops [⟨(some 2), .mv (.c (.bool false)), none, false, []⟩] none)
 (.seq (.ops [⟨(some 3), .mv (.t 0), none, false, []⟩,
   ⟨(some 4), .call (.c (.func 40 [] [])) [(.t 3), (.c (.int .i64 1)), (.c (.str []))], none, false, []⟩,
   ⟨(some 5), .mv (.t 4), none, false, []⟩,
   ⟨(some 6), .mv (.t 0), (some (5, false)), false, []⟩,
   ⟨(some 7), .call (.c (.func 40 [] [])) [(.t 6), (.c (.int .i64 2)), (.c (.str []))], (some (5, false)), false, []⟩,
   ⟨(some 8), .pick (.t 5) (.c (.bool true)) (.t 7), none, false, []⟩,
   ⟨(some 9), .mv (.t 8), none, false, []⟩,
   ⟨(some 10), .mv (.t 0), (some (9, false)), false, []⟩,
   ⟨(some 11), .call (.c (.func 40 [] [])) [(.t 10), (.c (.int .i64 5)), (.c (.str [40]))], (some (9, false)), false, []⟩,
   ⟨(some 12), .pick (.t 9) (.c (.bool true)) (.t 11), none, false, []⟩,
   ⟨(some 2), .mv (.t 12), none, false, []⟩] none)
 .ret)) }
/- (*warpref9.parser).atype -/
def f72 : AFunc :=
 { np := 2, ntmps := 93, results := [.cell 4 4 true], frz := false, body :=
 (.seq (.ops [⟨(some 4), .alloc true [.int .i64 0, .int .i64 0, .str [], .pl [] 0 .nil], none, false, []⟩] none)
 (.seq (.seq (.ops [⟨(some 8), .mv (.t 0), none, false, []⟩,
   ⟨(some 9), .call (.c (.func 71 [] [])) [(.t 8)], none, false, []⟩,
   ⟨(some 10), .not (.t 9), none, false, []⟩] none)
 (.cond (.t 10) (.seq (.ops [⟨(some 11), .mv (.t 0), none, false, []⟩,
   ⟨(some 12), .call (.c (.func 70 [] [])) [(.t 11)], none, false, []⟩] none)
 (.seq (.ops [⟨(some 13), .build [.int .i64 0, .int .i64 0, .str [], .pl [] 0 .nil] [], none, false, []⟩,
   ⟨none, .store 4 (.t 4) (.t 13), none, false, []⟩] none)
 .ret)) .skip))
 (.seq (.ops [⟨(some 14), .mv (.t 0), none, false, []⟩,
   ⟨(some 15), .nilck (.t 14), none, false, []⟩,
   ⟨(some 16), .faddr 0 (.t 15), none, false, []⟩,
   ⟨(some 17), .load false 1 (.t 16), none, false, []⟩,
   ⟨(some 18), .mv (.t 0), none, false, []⟩,
   ⟨(some 19), .nilck (.t 18), none, false, []⟩,
   ⟨(some 20), .faddr 1 (.t 19), none, false, []⟩,
   ⟨(some 21), .load false 1 (.t 20), none, false, []⟩,
   ⟨(some 22), .iaddr none 4 (.t 17) (.t 21), none, false, []⟩,
   ⟨(some 23), .load true 4 (.t 22), none, false, []⟩,
   ⟨(some 5), .alloc true [.int .i64 0, .int .i64 0, .str [], .int .i64 0], none, false, []⟩,
   ⟨none, .store 4 (.t 5) (.t 23), none, false, []⟩] (some [[], [0], [0, 1], [0, 1, 2], [], [4], [4, 5], [4, 5, 6], [0, 1, 2, 3, 4, 5, 6, 7], [0, 1, 2, 3, 4, 5, 6, 7, 8], [], [0, 1, 2, 3, 4, 5, 6, 7, 8, 9, 10]]))
 (.seq (.ops [⟨(some 24), .mv (.t 0), none, false, []⟩,
   ⟨(some 25), .nilck (.t 24), none, false, []⟩,
   ⟨(some 26), .faddr 1 (.t 25), none, false, []⟩,
   ⟨(some 27), .load false 1 (.t 26), none, false, []⟩,
   ⟨(some 28), .bin .sc .add (.t 27) (.c (.int .i64 1)), none, false, []⟩,
   ⟨(some 29), .nilck (.t 24), none, false, []⟩,
   ⟨(some 30), .faddr 1 (.t 29), none, false, []⟩,
   ⟨none, .store 1 (.t 30) (.t 28), none, false, []⟩] none)
 (.seq (.seq (.ops [⟨(some 31), .faddr 0 (.t 5), none, false, []⟩,
   ⟨(some 32), .load false 1 (.t 31), none, false, []⟩] none)
 (.block 0 (.seq (.ops [⟨(some 34), .bin .sc .eql (.t 32) (.c (.int .i64 1)), none, false, []⟩,
   ⟨(some 33), .mv (.t 34), none, false, []⟩] none)
 (.cond (.t 33) (.seq (.seq (.ops [⟨(some 35), .mv (.t 1), none, false, []⟩,
   ⟨(some 36), .faddr 2 (.t 5), none, false, []⟩,
   ⟨(some 37), .load false 1 (.t 36), none, false, []⟩,
   ⟨(some 38), .call (.c (.func 90 [] [])) [(.t 35), (.t 37)], none, false, []⟩,
   ⟨(some 6), .mv (.t 38), none, false, []⟩] none)
 (.seq (.ops [⟨(some 39), .mv (.t 6), none, false, []⟩,
   ⟨(some 40), .bin .sc .geq (.t 39) (.c (.int .i64 0)), none, false, []⟩] none)
 (.cond (.t 40) (.seq (.ops [⟨(some 41), .mv (.t 6), none, false, []⟩,
   ⟨(some 42), .build [.int .i64 0, .int .i64 0, .str [], .pl [] 0 .nil] [(0, 1, (.c (.int .i64 1))), (1, 1, (.t 41))], none, false, []⟩,
   ⟨none, .store 4 (.t 4) (.t 42), none, false, []⟩] none)
 .ret) .skip)))
 (.seq (.ops [⟨(some 43), .faddr 2 (.t 5), none, false, []⟩,
   ⟨(some 44), .load false 1 (.t 43), none, false, []⟩,
   ⟨(some 45), .build [.int .i64 0, .int .i64 0, .str [], .pl [] 0 .nil] [(0, 1, (.c (.int .i64 1))), (1, 1, (.c (.int .i64 (-1)))), (2, 1, (.t 44))], none, false, []⟩,
   ⟨none, .store 4 (.t 4) (.t 45), none, false, []⟩] none)
 .ret)) (.seq (.ops [⟨(some 47), .bin .sc .eql (.t 32) (.c (.int .i64 2)), none, false, []⟩,
   ⟨(some 46), .mv (.t 47), none, false, []⟩] none)
 (.cond (.t 46) (.seq (.ops [⟨(some 48), .faddr 2 (.t 5), none, false, []⟩,
   ⟨(some 49), .load false 1 (.t 48), none, false, []⟩,
   ⟨(some 50), .build [.int .i64 0, .int .i64 0, .str [], .pl [] 0 .nil] [(0, 1, (.c (.int .i64 2))), (2, 1, (.t 49))], none, false, []⟩,
   ⟨none, .store 4 (.t 4) (.t 50), none, false, []⟩] none)
 .ret) .skip))))))
 (.seq (.ops [⟨(some 51), .mv (.t 0), none, false, []⟩,
   ⟨(some 52), .mv (.t 1), none, false, []⟩,
   ⟨(some 53), .call (.c (.func 91 [] [])) [(.t 51), (.t 52)], none, false, []⟩,
   ⟨(some 54), .bslice false 1 [.int .i64 0, .int .i64 0, .str [], .pl [] 0 .nil] [(0, 4, (.t 53))], none, false, []⟩,
   ⟨(some 7), .mv (.t 54), none, false, []⟩] none)
 (.seq (.block 1 (.loop (.seq (.seq (.ops [⟨(some 55), .mv (.t 0), none, false, []⟩,
   ⟨(some 56), .nilck (.t 55), none, false, []⟩,
   ⟨(some 57), .faddr 3 (.t 56), none, false, []⟩,
   ⟨(some 58), .load false 1 (.t 57), none, false, []⟩,
   ⟨(some 59), .not (.t 58), none, false, []⟩,
   ⟨(some 60), .mv (.t 59), none, false, []⟩,
   ⟨(some 61), .mv (.t 0), (some (60, true)), false, []⟩,
   ⟨(some 62), .call (.c (.func 40 [] [])) [(.t 61), (.c (.int .i64 5)), (.c (.str [44]))], (some (60, true)), false, []⟩,
   ⟨(some 63), .pick (.t 60) (.t 62) (.c (.bool false)), none, false, []⟩] none)
 (.cond (.t 63) .skip (.exit 1)))
 (.block 2 (.seq (.seq (.ops [⟨(some 64), .mv (.t 7), none, false, []⟩,
   ⟨(some 65), .len 1 (.t 64), none, false, []⟩,
   ⟨(some 66), .bin .sc .eql (.t 65) (.c (.int .i64 8)), none, false, []⟩] none)
 (.cond (.t 66) (.seq (.ops [⟨(some 67), .mv (.t 0), none, false, []⟩,
   ⟨(some 68), .call (.c (.func 70 [] [])) [(.t 67)], none, false, []⟩] none)
 (.seq (.ops [⟨(some 69), .build [.int .i64 0, .int .i64 0, .str [], .pl [] 0 .nil] [], none, false, []⟩,
   ⟨none, .store 4 (.t 4) (.t 69), none, false, []⟩] none)
 .ret)) .skip))
 (.seq (.ops [⟨(some 70), .mv (.t 0), none, false, []⟩,
   ⟨(some 71), .nilck (.t 70), none, false, []⟩,
   ⟨(some 72), .faddr 1 (.t 71), none, false, []⟩,
   ⟨(some 73), .load false 1 (.t 72), none, false, []⟩,
   ⟨(some 74), .bin .sc .add (.t 73) (.c (.int .i64 1)), none, false, []⟩,
   ⟨(some 75), .nilck (.t 70), none, false, []⟩,
   ⟨(some 76), .faddr 1 (.t 75), none, false, []⟩,
   ⟨none, .store 1 (.t 76) (.t 74), none, false, []⟩] none)
 (.ops [⟨(some 77), .mv (.t 7), none, false, []⟩,
   ⟨(some 78), .mv (.t 0), none, false, []⟩,
   ⟨(some 79), .mv (.t 1), none, false, []⟩,
   ⟨(some 80), .call (.c (.func 91 [] [])) [(.t 78), (.t 79)], none, false, []⟩,
   ⟨(some 81), .bslice false 1 [.int .i64 0, .int .i64 0, .str [], .pl [] 0 .nil] [(0, 4, (.t 80))], none, false, []⟩,
   ⟨(some 82), .app false 4 56 (.t 77) (.t 81), none, false, []⟩,
   ⟨(some 7), .mv (.t 82), none, false, []⟩] none)))))))
 (.seq (.ops [⟨(some 83), .mv (.t 0), none, false, []⟩,
   ⟨(some 84), .call (.c (.func 43 [] [])) [(.t 83), (.c (.str [41]))], none, false, []⟩] none)
 (.seq (.seq (.ops [⟨(some 85), .mv (.t 7), none, false, []⟩,
   ⟨(some 86), .len 1 (.t 85), none, false, []⟩,
   ⟨(some 87), .bin .sc .eql (.t 86) (.c (.int .i64 1)), none, false, []⟩] none)
 (.cond (.t 87) (.seq (.ops [⟨(some 88), .mv (.t 7), none, false, []⟩,
   ⟨(some 89), .iaddr none 4 (.t 88) (.c (.int .i64 0)), none, false, []⟩,
   ⟨(some 90), .load true 4 (.t 89), none, false, []⟩,
   ⟨none, .store 4 (.t 4) (.t 90), none, false, []⟩] none)
 .ret) .skip))
 (.seq (.ops [⟨(some 91), .mv (.t 7), none, false, []⟩,
   ⟨(some 92), .build [.int .i64 0, .int .i64 0, .str [], .pl [] 0 .nil] [(0, 1, (.c (.int .i64 2))), (2, 1, (.c (.str [44]))), (3, 1, (.t 91))], none, false, []⟩,
   ⟨none, .store 4 (.t 4) (.t 92), none, false, []⟩] none)
 .ret)))))))))) }
/- (*warpref9.parser).alt -/
def f73 : AFunc :=
 { np := 1, ntmps := 37, results := [.cell 2 9 true], frz := false, body :=
 (.seq (.ops [⟨(some 2), .alloc true [.int .i64 0, .str [], .pl [] 0 .nil, .int .i64 0, .int .i64 0, .str [], .int .i64 0, .pl [] 0 .nil, .pl [] 0 .nil], none, false, []⟩] none)
 (.seq (.ops [⟨(some 7), .mv (.t 0), none, false, []⟩,
   ⟨(some 8), .call (.c (.func 41 [] [])) [(.t 7), (.c (.int .i64 2)), (.c (.str []))], none, false, []⟩,
   ⟨(some 3), .alloc true [.int .i64 0, .int .i64 0, .str [], .int .i64 0], none, false, []⟩,
   ⟨none, .store 4 (.t 3) (.t 8), none, false, []⟩] none)
 (.seq (.ops [⟨(some 9), .mv (.t 0), none, false, []⟩,
   ⟨(some 10), .call (.c (.func 42 [] [])) [(.t 9)], none, false, []⟩,
   ⟨(some 4), .mv (.t 10), none, false, []⟩] none)
 (.seq (.ops [⟨(some 11), .mv (.t 0), none, false, []⟩,
   ⟨(some 12), .call (.c (.func 43 [] [])) [(.t 11), (.c (.str [45, 62]))], none, false, []⟩] none)
 (.seq (.ops [⟨(some 13), .faddr 1 (.t 3), none, false, []⟩,
   ⟨(some 14), .load false 1 (.t 13), none, true, []⟩,
   ⟨(some 15), .faddr 2 (.t 3), none, false, []⟩,
   ⟨(some 16), .load false 1 (.t 15), none, true, []⟩,
   ⟨(some 17), .mv (.t 0), none, false, []⟩,
   ⟨(some 18), .call (.c (.func 47 [] [])) [(.t 17)], none, false, []⟩,
   ⟨(some 19), .build [.int .i64 0, .str [], .pl [] 0 .nil, .int .i64 0, .int .i64 0, .str [], .int .i64 0, .pl [] 0 .nil, .pl [] 0 .nil] [(0, 1, (.t 14)), (1, 1, (.t 16)), (3, 6, (.t 18))], none, false, []⟩,
   ⟨(some 5), .alloc true [.int .i64 0, .str [], .pl [] 0 .nil, .int .i64 0, .int .i64 0, .str [], .int .i64 0, .pl [] 0 .nil, .pl [] 0 .nil], none, false, []⟩,
   ⟨none, .store 9 (.t 5) (.t 19), none, false, []⟩] (some [[], [0], [], [2], [], [4], [0, 1, 2, 3, 4, 5], [], [0, 1, 2, 3, 4, 5, 6, 7]]))
 (.seq (.seq (.ops [⟨(some 6), .mv (.c (.int .i64 0)), none, false, []⟩] none)
 (.block 0 (.loop (.seq (.seq (.ops [⟨(some 20), .mv (.t 6), none, false, []⟩,
   ⟨(some 21), .mv (.t 4), none, false, []⟩,
   ⟨(some 22), .len 1 (.t 21), none, false, []⟩,
   ⟨(some 23), .bin .sc .lss (.t 20) (.t 22), none, false, []⟩] none)
 (.cond (.t 23) .skip (.exit 0)))
 (.seq (.block 1 (.ops [⟨(some 26), .faddr 2 (.t 5), none, false, []⟩,
   ⟨(some 27), .load false 1 (.t 26), none, false, []⟩,
   ⟨(some 28), .mv (.t 4), none, false, []⟩,
   ⟨(some 29), .mv (.t 6), none, false, []⟩,
   ⟨(some 30), .iaddr none 4 (.t 28) (.t 29), none, false, []⟩,
   ⟨(some 31), .faddr 2 (.t 30), none, false, []⟩,
   ⟨(some 32), .load false 1 (.t 31), none, false, []⟩,
   ⟨(some 33), .bslice false 1 [.str []] [(0, 1, (.t 32))], none, false, []⟩,
   ⟨(some 34), .app false 1 16 (.t 27) (.t 33), none, false, []⟩,
   ⟨(some 35), .faddr 2 (.t 5), none, false, []⟩,
   ⟨none, .store 1 (.t 35) (.t 34), none, false, []⟩] (some [[], [0], [], [], [2, 3], [2, 3, 4], [2, 3, 4, 5], [2, 3, 4, 5, 6], [0, 1, 2, 3, 4, 5, 6, 7], [0, 1, 2, 3, 4, 5, 6, 7, 8], [0, 1, 2, 3, 4, 5, 6, 7, 8, 9]])))
 (.ops [⟨(some 24), .mv (.t 6), none, false, []⟩,
   ⟨(some 25), .bin .sc .add (.t 24) (.c (.int .i64 1)), none, false, []⟩,
   ⟨(some 6), .mv (.t 25), none, false, []⟩] none))))))
 (.seq (.ops [⟨(some 36), .load true 9 (.t 5), none, false, []⟩,
   ⟨none, .store 9 (.t 2) (.t 36), none, false, []⟩] none)
 .ret))))))) }
/- (*warpref9.parser).atom -/
def f74 : AFunc :=
 { np := 1, ntmps := 104, results := [.cell 2 6 true], frz := false, body :=
 (.seq (.ops [⟨(some 2), .alloc true [.int .i64 0, .int .i64 0, .str [], .int .i64 0, .pl [] 0 .nil, .pl [] 0 .nil], none, false, []⟩] none)
 (.seq (.seq (.ops [⟨(some 6), .mv (.t 0), none, false, []⟩,
   ⟨(some 7), .call (.c (.func 75 [] [])) [(.t 6)], none, false, []⟩,
   ⟨(some 8), .not (.t 7), none, false, []⟩] none)
 (.cond (.t 8) (.seq (.ops [⟨(some 9), .mv (.t 0), none, false, []⟩,
   ⟨(some 10), .call (.c (.func 70 [] [])) [(.t 9)], none, false, []⟩] none)
 (.seq (.ops [⟨(some 11), .build [.int .i64 0, .int .i64 0, .str [], .int .i64 0, .pl [] 0 .nil, .pl [] 0 .nil] [], none, false, []⟩,
   ⟨none, .store 6 (.t 2) (.t 11), none, false, []⟩] none)
 .ret)) .skip))
 (.seq (.ops [⟨(some 12), .mv (.t 0), none, false, []⟩,
   ⟨(some 13), .nilck (.t 12), none, false, []⟩,
   ⟨(some 14), .faddr 0 (.t 13), none, false, []⟩,
   ⟨(some 15), .load false 1 (.t 14), none, false, []⟩,
   ⟨(some 16), .mv (.t 0), none, false, []⟩,
   ⟨(some 17), .nilck (.t 16), none, false, []⟩,
   ⟨(some 18), .faddr 1 (.t 17), none, false, []⟩,
   ⟨(some 19), .load false 1 (.t 18), none, false, []⟩,
   ⟨(some 20), .iaddr none 4 (.t 15) (.t 19), none, false, []⟩,
   ⟨(some 21), .load true 4 (.t 20), none, false, []⟩,
   ⟨(some 3), .alloc true [.int .i64 0, .int .i64 0, .str [], .int .i64 0], none, false, []⟩,
   ⟨none, .store 4 (.t 3) (.t 21), none, false, []⟩] (some [[], [0], [0, 1], [0, 1, 2], [], [4], [4, 5], [4, 5, 6], [0, 1, 2, 3, 4, 5, 6, 7], [0, 1, 2, 3, 4, 5, 6, 7, 8], [], [0, 1, 2, 3, 4, 5, 6, 7, 8, 9, 10]]))
 (.seq (.ops [⟨(some 22), .mv (.t 0), none, false, []⟩,
   ⟨(some 23), .nilck (.t 22), none, false, []⟩,
   ⟨(some 24), .faddr 1 (.t 23), none, false, []⟩,
   ⟨(some 25), .load false 1 (.t 24), none, false, []⟩,
   ⟨(some 26), .bin .sc .add (.t 25) (.c (.int .i64 1)), none, false, []⟩,
   ⟨(some 27), .nilck (.t 22), none, false, []⟩,
   ⟨(some 28), .faddr 1 (.t 27), none, false, []⟩,
   ⟨none, .store 1 (.t 28) (.t 26), none, false, []⟩] none)
 (.seq (.seq (.ops [⟨(some 29), .faddr 0 (.t 3), none, false, []⟩,
   ⟨(some 30), .load false 1 (.t 29), none, false, []⟩] none)
 (.block 0 (.seq (.ops [⟨(some 32), .bin .sc .eql (.t 30) (.c (.int .i64 1)), none, false, []⟩,
   ⟨(some 31), .mv (.t 32), none, false, []⟩] none)
 (.cond (.t 31) (.seq (.ops [⟨(some 33), .faddr 1 (.t 3), none, false, []⟩,
   ⟨(some 34), .load false 1 (.t 33), none, false, []⟩,
   ⟨(some 35), .faddr 2 (.t 3), none, false, []⟩,
   ⟨(some 36), .load false 1 (.t 35), none, false, []⟩,
   ⟨(some 37), .build [.int .i64 0, .int .i64 0, .str [], .int .i64 0, .pl [] 0 .nil, .pl [] 0 .nil] [(0, 1, (.c (.int .i64 1))), (1, 1, (.t 34)), (2, 1, (.t 36))], none, false, []⟩,
   ⟨none, .store 6 (.t 2) (.t 37), none, false, []⟩] none)
 .ret) (.seq (.ops [⟨(some 39), .bin .sc .eql (.t 30) (.c (.int .i64 2)), none, false, []⟩,
   ⟨(some 38), .mv (.t 39), none, false, []⟩] none)
 (.cond (.t 38) (.seq (.ops [⟨(some 40), .faddr 1 (.t 3), none, false, []⟩,
   ⟨(some 41), .load false 1 (.t 40), none, false, []⟩,
   ⟨(some 42), .faddr 2 (.t 3), none, false, []⟩,
   ⟨(some 43), .load false 1 (.t 42), none, false, []⟩,
   ⟨(some 44), .build [.int .i64 0, .int .i64 0, .str [], .int .i64 0, .pl [] 0 .nil, .pl [] 0 .nil] [(0, 1, (.c (.int .i64 2))), (1, 1, (.t 41)), (2, 1, (.t 43))], none, false, []⟩,
   ⟨none, .store 6 (.t 2) (.t 44), none, false, []⟩] none)
 .ret) (.seq (.ops [⟨(some 46), .bin .sc .eql (.t 30) (.c (.int .i64 3)), none, false, []⟩,
   ⟨(some 45), .mv (.t 46), none, false, []⟩] none)
 (.cond (.t 45) (.seq (.ops [⟨(some 47), .faddr 1 (.t 3), none, false, []⟩,
   ⟨(some 48), .load false 1 (.t 47), none, false, []⟩,
   ⟨(some 49), .faddr 3 (.t 3), none, false, []⟩,
   ⟨(some 50), .load false 1 (.t 49), none, false, []⟩,
   ⟨(some 51), .build [.int .i64 0, .int .i64 0, .str [], .int .i64 0, .pl [] 0 .nil, .pl [] 0 .nil] [(0, 1, (.c (.int .i64 3))), (1, 1, (.t 48)), (3, 1, (.t 50))], none, false, []⟩,
   ⟨none, .store 6 (.t 2) (.t 51), none, false, []⟩] none)
 .ret) (.seq (.ops [⟨(some 53), .bin .sc .eql (.t 30) (.c (.int .i64 4)), none, false, []⟩,
   ⟨(some 52), .mv (.t 53), none, false, []⟩] none)
 (.cond (.t 52) (.seq (.ops [⟨(some 54), .faddr 1 (.t 3), none, false, []⟩,
   ⟨(some 55), .load false 1 (.t 54), none, false, []⟩,
   ⟨(some 56), .build [.int .i64 0, .int .i64 0, .str [], .int .i64 0, .pl [] 0 .nil, .pl [] 0 .nil] [(0, 1, (.c (.int .i64 4))), (1, 1, (.t 55))], none, false, []⟩,
   ⟨(some 4), .alloc true [.int .i64 0, .int .i64 0, .str [], .int .i64 0, .pl [] 0 .nil, .pl [] 0 .nil], none, false, []⟩,
   ⟨none, .store 6 (.t 4) (.t 56), none, false, []⟩] none)
 (.seq (.seq (.ops [⟨(some 57), .faddr 2 (.t 3), none, false, []⟩,
   ⟨(some 58), .load false 1 (.t 57), none, false, []⟩,
   ⟨(some 59), .bin .sc .eql (.t 58) (.c (.str [116, 114, 117, 101])), none, false, []⟩] none)
 (.cond (.t 59) (.ops [⟨(some 60), .faddr 3 (.t 4), none, false, []⟩,
   ⟨none, .store 1 (.t 60) (.c (.int .i64 1)), none, false, []⟩] none) .skip))
 (.seq (.ops [⟨(some 61), .load true 6 (.t 4), none, false, []⟩,
   ⟨none, .store 6 (.t 2) (.t 61), none, false, []⟩] none)
 .ret))) .skip))))))))))
 (.seq (.ops [⟨(some 62), .mv (.t 0), none, false, []⟩,
   ⟨(some 63), .call (.c (.func 47 [] [])) [(.t 62)], none, false, []⟩,
   ⟨(some 64), .bslice false 1 [.int .i64 0, .int .i64 0, .str [], .int .i64 0, .pl [] 0 .nil, .pl [] 0 .nil] [(0, 6, (.t 63))], none, false, []⟩,
   ⟨(some 5), .mv (.t 64), none, false, []⟩] none)
 (.seq (.block 1 (.loop (.seq (.seq (.ops [⟨(some 65), .mv (.t 0), none, false, []⟩,
   ⟨(some 66), .nilck (.t 65), none, false, []⟩,
   ⟨(some 67), .faddr 3 (.t 66), none, false, []⟩,
   ⟨(some 68), .load false 1 (.t 67), none, false, []⟩,
   ⟨(some 69), .not (.t 68), none, false, []⟩,
   ⟨(some 70), .mv (.t 69), none, false, []⟩,
   ⟨(some 71), .mv (.t 0), (some (70, true)), false, []⟩,
   ⟨(some 72), .call (.c (.func 40 [] [])) [(.t 71), (.c (.int .i64 5)), (.c (.str [44]))], (some (70, true)), false, []⟩,
   ⟨(some 73), .pick (.t 70) (.t 72) (.c (.bool false)), none, false, []⟩] none)
 (.cond (.t 73) .skip (.exit 1)))
 (.block 2 (.seq (.seq (.ops [⟨(some 74), .mv (.t 5), none, false, []⟩,
   ⟨(some 75), .len 1 (.t 74), none, false, []⟩,
   ⟨(some 76), .bin .sc .eql (.t 75) (.c (.int .i64 8)), none, false, []⟩] none)
 (.cond (.t 76) (.seq (.ops [⟨(some 77), .mv (.t 0), none, false, []⟩,
   ⟨(some 78), .call (.c (.func 70 [] [])) [(.t 77)], none, false, []⟩] none)
 (.seq (.ops [⟨(some 79), .build [.int .i64 0, .int .i64 0, .str [], .int .i64 0, .pl [] 0 .nil, .pl [] 0 .nil] [], none, false, []⟩,
   ⟨none, .store 6 (.t 2) (.t 79), none, false, []⟩] none)
 .ret)) .skip))
 (.seq (.ops [⟨(some 80), .mv (.t 0), none, false, []⟩,
   ⟨(some 81), .nilck (.t 80), none, false, []⟩,
   ⟨(some 82), .faddr 1 (.t 81), none, false, []⟩,
   ⟨(some 83), .load false 1 (.t 82), none, false, []⟩,
   ⟨(some 84), .bin .sc .add (.t 83) (.c (.int .i64 1)), none, false, []⟩,
   ⟨(some 85), .nilck (.t 80), none, false, []⟩,
   ⟨(some 86), .faddr 1 (.t 85), none, false, []⟩,
   ⟨none, .store 1 (.t 86) (.t 84), none, false, []⟩] none)
 (.ops [⟨(some 87), .mv (.t 5), none, false, []⟩,
   ⟨(some 88), .mv (.t 0), none, false, []⟩,
   ⟨(some 89), .call (.c (.func 47 [] [])) [(.t 88)], none, false, []⟩,
   ⟨(some 90), .bslice false 1 [.int .i64 0, .int .i64 0, .str [], .int .i64 0, .pl [] 0 .nil, .pl [] 0 .nil] [(0, 6, (.t 89))], none, false, []⟩,
   ⟨(some 91), .app false 6 88 (.t 87) (.t 90), none, false, []⟩,
   ⟨(some 5), .mv (.t 91), none, false, []⟩] none)))))))
 (.seq (.ops [⟨(some 92), .mv (.t 0), none, false, []⟩,
   ⟨(some 93), .call (.c (.func 43 [] [])) [(.t 92), (.c (.str [41]))], none, false, []⟩] none)
 (.seq (.seq (.ops [⟨(some 94), .mv (.t 5), none, false, []⟩,
   ⟨(some 95), .len 1 (.t 94), none, false, []⟩,
   ⟨(some 96), .bin .sc .eql (.t 95) (.c (.int .i64 1)), none, false, []⟩] none)
 (.cond (.t 96) (.seq (.ops [⟨(some 97), .mv (.t 5), none, false, []⟩,
   ⟨(some 98), .iaddr none 6 (.t 97) (.c (.int .i64 0)), none, false, []⟩,
   ⟨(some 99), .load true 6 (.t 98), none, false, []⟩,
   ⟨none, .store 6 (.t 2) (.t 99), none, false, []⟩] none)
 .ret) .skip))
 (.seq (.ops [⟨(some 100), .faddr 1 (.t 3), none, false, []⟩,
   ⟨(some 101), .load false 1 (.t 100), none, false, []⟩,
   ⟨(some 102), .mv (.t 5), none, false, []⟩,
   ⟨(some 103), .build [.int .i64 0, .int .i64 0, .str [], .int .i64 0, .pl [] 0 .nil, .pl [] 0 .nil] [(0, 1, (.c (.int .i64 8))), (1, 1, (.t 101)), (4, 1, (.t 102))], none, false, []⟩,
   ⟨none, .store 6 (.t 2) (.t 103), none, false, []⟩] none)
 .ret)))))))))) }
/- (*warpref9.parser).atomic -/
def f75 : AFunc :=
 { np := 1, ntmps := 25, results := [.tmp 2], frz := false, body :=
 (.seq (.ops [⟨(some 2), .mv (.c (.bool false)), none, false, []⟩] none)
 (.seq (.ops [⟨(some 3), .mv (.t 0), none, false, []⟩,
   ⟨(some 4), .call (.c (.func 40 [] [])) [(.t 3), (.c (.int .i64 1)), (.c (.str []))], none, false, []⟩,
   ⟨(some 5), .mv (.t 4), none, false, []⟩,
   ⟨(some 6), .mv (.t 0), (some (5, false)), false, []⟩,
   ⟨(some 7), .call (.c (.func 40 [] [])) [(.t 6), (.c (.int .i64 2)), (.c (.str []))], (some (5, false)), false, []⟩,
   ⟨(some 8), .pick (.t 5) (.c (.bool true)) (.t 7), none, false, []⟩,
   ⟨(some 9), .mv (.t 8), none, false, []⟩,
   ⟨(some 10), .mv (.t 0), (some (9, false)), false, []⟩,
   ⟨(some 11), .call (.c (.func 40 [] [])) [(.t 10), (.c (.int .i64 3)), (.c (.str []))], (some (9, false)), false, []⟩,
   ⟨(some 12), .pick (.t 9) (.c (.bool true)) (.t 11), none, false, []⟩,
   ⟨(some 13), .mv (.t 12), none, false, []⟩,
   ⟨(some 14), .mv (.t 0), (some (13, false)), false, []⟩,
   ⟨(some 15), .call (.c (.func 40 [] [])) [(.t 14), (.c (.int .i64 4)), (.c (.str [116, 114, 117, 101]))], (some (13, false)), false, []⟩,
   ⟨(some 16), .pick (.t 13) (.c (.bool true)) (.t 15), none, false, []⟩,
   ⟨(some 17), .mv (.t 16), none, false, []⟩,
   ⟨(some 18), .mv (.t 0), (some (17, false)), false, []⟩,
   ⟨(some 19), .call (.c (.func 40 [] [])) [(.t 18), (.c (.int .i64 4)), (.c (.str [102, 97, 108, 115, 101]))], (some (17, false)), false, []⟩,
   ⟨(some 20), .pick (.t 17) (.c (.bool true)) (.t 19), none, false, []⟩,
   ⟨(some 21), .mv (.t 20), none, false, []⟩,
   ⟨(some 22), .mv (.t 0), (some (21, false)), false, []⟩,
   ⟨(some 23), .call (.c (.func 40 [] [])) [(.t 22), (.c (.int .i64 5)), (.c (.str [40]))], (some (21, false)), false, []⟩,
   ⟨(some 24), .pick (.t 21) (.c (.bool true)) (.t 23), none, false, []⟩,
   ⟨(some 2), .mv (.t 24), none, false, []⟩] none)
 .ret)) }
/- warpref9.Deep -/
def f76 : AFunc :=
 { np := 1, ntmps := 39, results := [.tmp 2], frz := false, body :=
 (.seq (.ops [⟨(some 1), .box true (.t 0), none, false, []⟩,
   ⟨(some 2), .mv (.c (.int .i64 0)), none, false, []⟩] none)
 (.seq (.ops [⟨(some 3), .mv (.c (.int .i64 0)), none, false, []⟩] none)
 (.seq (.seq (.ops [⟨(some 4), .mv (.c (.int .i64 0)), none, false, []⟩] none)
 (.block 0 (.loop (.seq (.seq (.ops [⟨(some 6), .mv (.t 4), none, false, []⟩,
   ⟨(some 7), .faddr 4 (.t 1), none, false, []⟩,
   ⟨(some 8), .load false 1 (.t 7), none, false, []⟩,
   ⟨(some 9), .len 1 (.t 8), none, false, []⟩,
   ⟨(some 10), .bin .sc .lss (.t 6) (.t 9), none, false, []⟩] none)
 (.cond (.t 10) .skip (.exit 0)))
 (.seq (.block 1 (.ops [⟨(some 13), .mv (.t 3), none, false, []⟩,
   ⟨(some 14), .faddr 4 (.t 1), none, false, []⟩,
   ⟨(some 15), .load false 1 (.t 14), none, false, []⟩,
   ⟨(some 16), .mv (.t 4), none, false, []⟩,
   ⟨(some 17), .iaddr none 6 (.t 15) (.t 16), none, false, []⟩,
   ⟨(some 18), .load true 6 (.t 17), none, false, []⟩,
   ⟨(some 19), .call (.c (.func 76 [] [])) [(.t 18)], none, false, []⟩,
   ⟨(some 20), .max [(.t 13), (.t 19)], none, false, []⟩,
   ⟨(some 3), .mv (.t 20), none, false, []⟩] none))
 (.ops [⟨(some 11), .mv (.t 4), none, false, []⟩,
   ⟨(some 12), .bin .sc .add (.t 11) (.c (.int .i64 1)), none, false, []⟩,
   ⟨(some 4), .mv (.t 12), none, false, []⟩] none))))))
 (.seq (.seq (.ops [⟨(some 5), .mv (.c (.int .i64 0)), none, false, []⟩] none)
 (.block 2 (.loop (.seq (.seq (.ops [⟨(some 21), .mv (.t 5), none, false, []⟩,
   ⟨(some 22), .faddr 5 (.t 1), none, false, []⟩,
   ⟨(some 23), .load false 1 (.t 22), none, false, []⟩,
   ⟨(some 24), .len 1 (.t 23), none, false, []⟩,
   ⟨(some 25), .bin .sc .lss (.t 21) (.t 24), none, false, []⟩] none)
 (.cond (.t 25) .skip (.exit 2)))
 (.seq (.block 3 (.ops [⟨(some 28), .mv (.t 3), none, false, []⟩,
   ⟨(some 29), .faddr 5 (.t 1), none, false, []⟩,
   ⟨(some 30), .load false 1 (.t 29), none, false, []⟩,
   ⟨(some 31), .mv (.t 5), none, false, []⟩,
   ⟨(some 32), .iaddr none 9 (.t 30) (.t 31), none, false, []⟩,
   ⟨(some 33), .faddr 3 (.t 32), none, false, []⟩,
   ⟨(some 34), .load true 6 (.t 33), none, false, []⟩,
   ⟨(some 35), .call (.c (.func 76 [] [])) [(.t 34)], none, false, []⟩,
   ⟨(some 36), .max [(.t 28), (.t 35)], none, false, []⟩,
   ⟨(some 3), .mv (.t 36), none, false, []⟩] none))
 (.ops [⟨(some 26), .mv (.t 5), none, false, []⟩,
   ⟨(some 27), .bin .sc .add (.t 26) (.c (.int .i64 1)), none, false, []⟩,
   ⟨(some 5), .mv (.t 27), none, false, []⟩] none))))))
 (.seq (.ops [⟨(some 37), .mv (.t 3), none, false, []⟩,
   ⟨(some 38), .bin .sc .add (.t 37) (.c (.int .i64 1)), none, false, []⟩,
   ⟨(some 2), .mv (.t 38), none, false, []⟩] none)
 .ret))))) }
/- warpref9.deep -/
def f77 : AFunc :=
 { np := 1, ntmps := 22, results := [.tmp 2], frz := false, body :=
 (.seq (.ops [⟨(some 1), .box true (.t 0), none, false, []⟩,
   ⟨(some 2), .mv (.c (.int .i64 0)), none, false, []⟩] none)
 (.seq (.ops [⟨(some 3), .mv (.c (.int .i64 0)), none, false, []⟩] none)
 (.seq (.seq (.ops [⟨(some 4), .mv (.c (.int .i64 0)), none, false, []⟩] none)
 (.block 0 (.loop (.seq (.seq (.ops [⟨(some 5), .mv (.t 4), none, false, []⟩,
   ⟨(some 6), .faddr 3 (.t 1), none, false, []⟩,
   ⟨(some 7), .load false 1 (.t 6), none, false, []⟩,
   ⟨(some 8), .len 1 (.t 7), none, false, []⟩,
   ⟨(some 9), .bin .sc .lss (.t 5) (.t 8), none, false, []⟩] none)
 (.cond (.t 9) .skip (.exit 0)))
 (.seq (.block 1 (.ops [⟨(some 12), .mv (.t 3), none, false, []⟩,
   ⟨(some 13), .faddr 3 (.t 1), none, false, []⟩,
   ⟨(some 14), .load false 1 (.t 13), none, false, []⟩,
   ⟨(some 15), .mv (.t 4), none, false, []⟩,
   ⟨(some 16), .iaddr none 4 (.t 14) (.t 15), none, false, []⟩,
   ⟨(some 17), .load true 4 (.t 16), none, false, []⟩,
   ⟨(some 18), .call (.c (.func 77 [] [])) [(.t 17)], none, false, []⟩,
   ⟨(some 19), .max [(.t 12), (.t 18)], none, false, []⟩,
   ⟨(some 3), .mv (.t 19), none, false, []⟩] none))
 (.ops [⟨(some 10), .mv (.t 4), none, false, []⟩,
   ⟨(some 11), .bin .sc .add (.t 10) (.c (.int .i64 1)), none, false, []⟩,
   ⟨(some 4), .mv (.t 11), none, false, []⟩] none))))))
 (.seq (.ops [⟨(some 20), .mv (.t 3), none, false, []⟩,
   ⟨(some 21), .bin .sc .add (.t 20) (.c (.int .i64 1)), none, false, []⟩,
   ⟨(some 2), .mv (.t 21), none, false, []⟩] none)
 .ret)))) }
/- (*infer.solver).add -/
def f78 : AFunc :=
 { np := 2, ntmps := 35, results := [.tmp 4], frz := false, body :=
 (.seq (.ops [⟨(some 3), .box true (.t 1), none, false, []⟩,
   ⟨(some 4), .mv (.c (.int .i64 0)), none, false, []⟩] none)
 (.seq (.ops [⟨(some 5), .mv (.t 0), none, false, []⟩,
   ⟨(some 6), .mv (.t 0), none, false, []⟩,
   ⟨(some 7), .nilck (.t 6), none, false, []⟩,
   ⟨(some 8), .faddr 0 (.t 7), none, false, []⟩,
   ⟨(some 9), .load false 1 (.t 8), none, false, []⟩,
   ⟨(some 10), .load true 4 (.t 3), none, false, []⟩,
   ⟨(some 11), .bslice false 1 [.bool false, .str [], .pl [] 0 .nil, .int .i64 0] [(0, 4, (.t 10))], none, false, []⟩,
   ⟨(some 12), .app true 4 56 (.t 9) (.t 11), none, false, []⟩,
   ⟨(some 13), .nilck (.t 5), none, false, []⟩,
   ⟨(some 14), .faddr 0 (.t 13), none, false, []⟩,
   ⟨none, .store 1 (.t 14) (.t 12), none, false, []⟩] (some [[], [], [1], [1, 2], [1, 2, 3], [], [5], [1, 2, 3, 4, 5, 6], [0, 1, 2, 3, 4, 5, 6, 7], [0, 1, 2, 3, 4, 5, 6, 7, 8], [0, 1, 2, 3, 4, 5, 6, 7, 8, 9]]))
 (.seq (.ops [⟨(some 15), .mv (.t 0), none, false, []⟩,
   ⟨(some 16), .mv (.t 0), none, false, []⟩,
   ⟨(some 17), .nilck (.t 16), none, false, []⟩,
   ⟨(some 18), .faddr 1 (.t 17), none, false, []⟩,
   ⟨(some 19), .load false 1 (.t 18), none, false, []⟩,
   ⟨(some 20), .mv (.t 0), none, false, []⟩,
   ⟨(some 21), .nilck (.t 20), none, false, []⟩,
   ⟨(some 22), .faddr 1 (.t 21), none, false, []⟩,
   ⟨(some 23), .load false 1 (.t 22), none, false, []⟩,
   ⟨(some 24), .len 1 (.t 23), none, false, []⟩,
   ⟨(some 25), .bslice false 1 [.int .i64 0] [(0, 1, (.t 24))], none, false, []⟩,
   ⟨(some 26), .app true 1 8 (.t 19) (.t 25), none, false, []⟩,
   ⟨(some 27), .nilck (.t 15), none, false, []⟩,
   ⟨(some 28), .faddr 1 (.t 27), none, false, []⟩,
   ⟨none, .store 1 (.t 28) (.t 26), none, false, []⟩] (some [[], [], [1], [1, 2], [1, 2, 3], [], [5], [5, 6], [5, 6, 7], [5, 6, 7, 8], [5, 6, 7, 8, 9], [1, 2, 3, 4, 5, 6, 7, 8, 9, 10], [0, 1, 2, 3, 4, 5, 6, 7, 8, 9, 10, 11], [0, 1, 2, 3, 4, 5, 6, 7, 8, 9, 10, 11, 12], [0, 1, 2, 3, 4, 5, 6, 7, 8, 9, 10, 11, 12, 13]]))
 (.seq (.ops [⟨(some 29), .mv (.t 0), none, false, []⟩,
   ⟨(some 30), .nilck (.t 29), none, false, []⟩,
   ⟨(some 31), .faddr 1 (.t 30), none, false, []⟩,
   ⟨(some 32), .load false 1 (.t 31), none, false, []⟩,
   ⟨(some 33), .len 1 (.t 32), none, false, []⟩,
   ⟨(some 34), .bin .sc .sub (.t 33) (.c (.int .i64 1)), none, false, []⟩,
   ⟨(some 4), .mv (.t 34), none, false, []⟩] none)
 .ret)))) }
/- (*infer.solver).bind -/
def f79 : AFunc :=
 { np := 3, ntmps := 77, results := [.tmp 6], frz := false, body :=
 (.seq (.ops [⟨(some 6), .mv (.c (.bool false)), none, false, []⟩] none)
 (.seq (.ops [⟨(some 11), .mkmap, none, false, []⟩,
   ⟨(some 7), .mv (.t 11), none, false, []⟩] none)
 (.seq (.seq (.ops [⟨(some 12), .mv (.t 2), none, false, []⟩,
   ⟨(some 13), .bslice true 1 [.int .i64 0] [(0, 1, (.t 12))], none, false, []⟩,
   ⟨(some 8), .mv (.t 13), none, false, []⟩] none)
 (.block 0 (.loop (.seq (.seq (.ops [⟨(some 14), .mv (.t 8), none, false, []⟩,
   ⟨(some 15), .len 1 (.t 14), none, false, []⟩,
   ⟨(some 16), .bin .sc .gtr (.t 15) (.c (.int .i64 0)), none, false, []⟩] none)
 (.cond (.t 16) .skip (.exit 0)))
 (.block 1 (.seq (.ops [⟨(some 17), .mv (.t 0), none, false, []⟩,
   ⟨(some 18), .mv (.t 8), none, false, []⟩,
   ⟨(some 19), .mv (.t 8), none, false, []⟩,
   ⟨(some 20), .len 1 (.t 19), none, false, []⟩,
   ⟨(some 21), .bin .sc .sub (.t 20) (.c (.int .i64 1)), none, false, []⟩,
   ⟨(some 22), .iaddr none 1 (.t 18) (.t 21), none, false, []⟩,
   ⟨(some 23), .load false 1 (.t 22), none, false, []⟩,
   ⟨(some 24), .call (.c (.func 58 [] [])) [(.t 17), (.t 23)], none, false, []⟩,
   ⟨(some 9), .mv (.t 24), none, false, []⟩] none)
 (.seq (.ops [⟨(some 25), .mv (.t 8), none, false, []⟩,
   ⟨(some 26), .mv (.t 8), none, false, []⟩,
   ⟨(some 27), .len 1 (.t 26), none, false, []⟩,
   ⟨(some 28), .bin .sc .sub (.t 27) (.c (.int .i64 1)), none, false, []⟩,
   ⟨(some 29), .sliceL 1 (.t 25) none (some (.t 28)) none, none, false, []⟩,
   ⟨(some 8), .mv (.t 29), none, false, []⟩] none)
 (.seq (.seq (.ops [⟨(some 30), .mv (.t 9), none, false, []⟩,
   ⟨(some 31), .mv (.t 1), none, false, []⟩,
   ⟨(some 32), .bin .sc .eql (.t 30) (.t 31), none, false, []⟩] none)
 (.cond (.t 32) (.seq (.ops [⟨(some 6), .mv (.c (.bool false)), none, false, []⟩] none)
 .ret) .skip))
 (.seq (.seq (.ops [⟨(some 33), .mv (.t 7), none, false, []⟩,
   ⟨(some 34), .mv (.t 9), none, false, []⟩,
   ⟨(some 35), .lookup (.one (.i .i64)) (.bool false) false (.t 33) (.t 34), none, false, []⟩] none)
 (.cond (.t 35) (.exit 1) .skip))
 (.seq (.ops [⟨(some 36), .mv (.t 7), none, false, []⟩,
   ⟨(some 37), .mv (.t 9), none, false, []⟩,
   ⟨none, .mupd (.one (.i .i64)) (.t 36) (.t 37) (.c (.bool true)), none, false, []⟩] none)
 (.seq (.ops [⟨(some 38), .mv (.t 0), none, false, []⟩,
   ⟨(some 39), .nilck (.t 38), none, false, []⟩,
   ⟨(some 40), .faddr 0 (.t 39), none, false, []⟩,
   ⟨(some 41), .load false 1 (.t 40), none, false, []⟩,
   ⟨(some 42), .mv (.t 9), none, false, []⟩,
   ⟨(some 43), .iaddr none 4 (.t 41) (.t 42), none, false, []⟩,
   ⟨(some 10), .mv (.t 43), none, false, []⟩] none)
 (.seq (.ops [⟨(some 44), .mv (.t 10), none, false, []⟩,
   ⟨(some 45), .nilck (.t 44), none, false, []⟩,
   ⟨(some 46), .faddr 0 (.t 45), none, false, []⟩,
   ⟨(some 47), .load false 1 (.t 46), none, false, []⟩] none)
 (.cond (.t 47) (.ops [⟨(some 48), .mv (.t 8), none, false, []⟩,
   ⟨(some 49), .mv (.t 10), none, false, []⟩,
   ⟨(some 50), .nilck (.t 49), none, false, []⟩,
   ⟨(some 51), .faddr 2 (.t 50), none, false, []⟩,
   ⟨(some 52), .load false 1 (.t 51), none, false, []⟩,
   ⟨(some 53), .app true 1 8 (.t 48) (.t 52), none, false, []⟩,
   ⟨(some 8), .mv (.t 53), none, false, []⟩] none) (.ops [⟨(some 54), .mv (.t 10), none, false, []⟩,
   ⟨(some 55), .mv (.t 10), none, false, []⟩,
   ⟨(some 56), .nilck (.t 55), none, false, []⟩,
   ⟨(some 57), .faddr 3 (.t 56), none, false, []⟩,
   ⟨(some 58), .load false 1 (.t 57), none, false, []⟩,
   ⟨(some 59), .mv (.t 0), none, false, []⟩,
   ⟨(some 60), .nilck (.t 59), none, false, []⟩,
   ⟨(some 61), .faddr 0 (.t 60), none, false, []⟩,
   ⟨(some 62), .load false 1 (.t 61), none, false, []⟩,
   ⟨(some 63), .mv (.t 1), none, false, []⟩,
   ⟨(some 64), .iaddr none 4 (.t 62) (.t 63), none, false, []⟩,
   ⟨(some 65), .faddr 3 (.t 64), none, false, []⟩,
   ⟨(some 66), .load false 1 (.t 65), none, false, []⟩,
   ⟨(some 67), .min [(.t 58), (.t 66)], none, false, []⟩,
   ⟨(some 68), .nilck (.t 54), none, false, []⟩,
   ⟨(some 69), .faddr 3 (.t 68), none, false, []⟩,
   ⟨none, .store 1 (.t 69) (.t 67), none, false, []⟩] (some [[], [], [1], [1, 2], [1, 2, 3], [], [5], [5, 6], [5, 6, 7], [], [5, 6, 7, 8, 9], [5, 6, 7, 8, 9, 10], [5, 6, 7, 8, 9, 10, 11], [1, 2, 3, 4, 5, 6, 7, 8, 9, 10, 11, 12], [0, 1, 2, 3, 4, 5, 6, 7, 8, 9, 10, 11, 12, 13], [0, 1, 2, 3, 4, 5, 6, 7, 8, 9, 10, 11, 12, 13, 14], [0, 1, 2, 3, 4, 5, 6, 7, 8, 9, 10, 11, 12, 13, 14, 15]])))))))))))))))
 (.seq (.ops [⟨(some 70), .mv (.t 0), none, false, []⟩,
   ⟨(some 71), .nilck (.t 70), none, false, []⟩,
   ⟨(some 72), .faddr 1 (.t 71), none, false, []⟩,
   ⟨(some 73), .load false 1 (.t 72), none, false, []⟩,
   ⟨(some 74), .mv (.t 1), none, false, []⟩,
   ⟨(some 75), .mv (.t 2), none, false, []⟩,
   ⟨(some 76), .iaddr none 1 (.t 73) (.t 74), none, false, []⟩,
   ⟨none, .store 1 (.t 76) (.t 75), none, false, []⟩] none)
 (.seq (.ops [⟨(some 6), .mv (.c (.bool true)), none, false, []⟩] none)
 .ret))))) }
/- (*infer.solver).instance -/
def f80 : AFunc :=
 { np := 3, ntmps := 83, results := [.tmp 6], frz := false, body :=
 (.seq (.ops [⟨(some 6), .mv (.c (.int .i64 0)), none, false, []⟩] none)
 (.seq (.ops [⟨(some 16), .mv (.t 0), none, false, []⟩,
   ⟨(some 17), .mv (.t 1), none, false, []⟩,
   ⟨(some 18), .call (.c (.func 58 [] [])) [(.t 16), (.t 17)], none, false, []⟩,
   ⟨(some 1), .mv (.t 18), none, false, []⟩] none)
 (.seq (.seq (.ops [⟨(some 20), .mv (.t 2), none, false, []⟩,
   ⟨(some 21), .mv (.t 1), none, false, []⟩,
   ⟨(some 22), .lookup (.one (.i .i64)) (.int .i64 0) true (.t 20) (.t 21), none, false, []⟩,
   ⟨(some 19), .mv (.t 22), none, false, []⟩,
   ⟨(some 23), .extract 0 (.t 19), none, false, []⟩,
   ⟨(some 24), .extract 1 (.t 19), none, false, []⟩,
   ⟨(some 7), .mv (.t 23), none, false, []⟩,
   ⟨(some 8), .mv (.t 24), none, false, []⟩] none)
 (.seq (.ops [⟨(some 25), .mv (.t 8), none, false, []⟩] none)
 (.cond (.t 25) (.seq (.ops [⟨(some 26), .mv (.t 7), none, false, []⟩,
   ⟨(some 6), .mv (.t 26), none, false, []⟩] none)
 .ret) .skip)))
 (.seq (.ops [⟨(some 27), .mv (.t 1), none, false, []⟩,
   ⟨(some 9), .mv (.t 27), none, false, []⟩] none)
 (.seq (.ops [⟨(some 28), .mv (.t 0), none, false, []⟩,
   ⟨(some 29), .nilck (.t 28), none, false, []⟩,
   ⟨(some 30), .faddr 0 (.t 29), none, false, []⟩,
   ⟨(some 31), .load false 1 (.t 30), none, false, []⟩,
   ⟨(some 32), .mv (.t 1), none, false, []⟩,
   ⟨(some 33), .iaddr none 4 (.t 31) (.t 32), none, false, []⟩,
   ⟨(some 34), .load true 4 (.t 33), none, false, []⟩,
   ⟨(some 10), .alloc true [.bool false, .str [], .pl [] 0 .nil, .int .i64 0], none, false, []⟩,
   ⟨none, .store 4 (.t 10) (.t 34), none, false, []⟩] none)
 (.seq (.block 0 (.seq (.ops [⟨(some 36), .faddr 0 (.t 10), none, false, []⟩,
   ⟨(some 37), .load false 1 (.t 36), none, false, []⟩,
   ⟨(some 38), .not (.t 37), none, false, []⟩,
   ⟨(some 39), .mv (.t 38), none, false, []⟩,
   ⟨(some 40), .faddr 3 (.t 10), (some (39, true)), false, []⟩,
   ⟨(some 41), .load false 1 (.t 40), (some (39, true)), false, []⟩,
   ⟨(some 42), .bin .sc .eql (.t 41) (.c (.int .i64 1073741824)), (some (39, true)), false, []⟩,
   ⟨(some 43), .pick (.t 39) (.t 42) (.c (.bool false)), none, false, []⟩,
   ⟨(some 35), .mv (.t 43), none, false, []⟩] none)
 (.cond (.t 35) (.ops [⟨(some 44), .mv (.t 0), none, false, []⟩,
   ⟨(some 45), .call (.c (.func 49 [] [])) [(.t 44)], none, false, []⟩,
   ⟨(some 9), .mv (.t 45), none, false, []⟩] none) (.seq (.ops [⟨(some 47), .faddr 0 (.t 10), none, false, []⟩,
   ⟨(some 48), .load false 1 (.t 47), none, false, []⟩,
   ⟨(some 46), .mv (.t 48), none, false, []⟩] none)
 (.cond (.t 46) (.seq (.ops [⟨(some 11), .mv (.c (.pl [] 0 .nil)), none, false, []⟩] none)
 (.seq (.ops [⟨(some 12), .mv (.c (.bool false)), none, false, []⟩] none)
 (.seq (.seq (.ops [⟨(some 49), .faddr 2 (.t 10), none, false, []⟩,
   ⟨(some 50), .load false 1 (.t 49), none, false, []⟩,
   ⟨(some 51), .len 1 (.t 50), none, false, []⟩,
   ⟨(some 52), .mv (.c (.int .i64 0)), none, false, []⟩] none)
 (.block 1 (.loop (.seq (.ops [⟨(some 53), .bin .sc .lss (.t 52) (.t 51), none, false, []⟩] none)
 (.seq (.cond (.t 53) .skip (.exit 1))
 (.seq (.block 2 (.seq (.ops [⟨(some 54), .iaddr none 1 (.t 50) (.t 52), none, false, []⟩,
   ⟨(some 55), .load false 1 (.t 54), none, false, []⟩,
   ⟨(some 14), .mv (.t 55), none, false, []⟩] none)
 (.seq (.ops [⟨(some 56), .mv (.t 0), none, false, []⟩,
   ⟨(some 57), .mv (.t 14), none, false, []⟩,
   ⟨(some 58), .mv (.t 2), none, false, []⟩,
   ⟨(some 59), .call (.c (.func 80 [] [])) [(.t 56), (.t 57), (.t 58)], none, false, []⟩,
   ⟨(some 15), .mv (.t 59), none, false, []⟩] none)
 (.seq (.ops [⟨(some 60), .mv (.t 12), none, false, []⟩,
   ⟨(some 61), .mv (.t 60), none, false, []⟩,
   ⟨(some 62), .mv (.t 15), (some (61, false)), false, []⟩,
   ⟨(some 63), .mv (.t 0), (some (61, false)), false, []⟩,
   ⟨(some 64), .mv (.t 14), (some (61, false)), false, []⟩,
   ⟨(some 65), .call (.c (.func 58 [] [])) [(.t 63), (.t 64)], (some (61, false)), false, []⟩,
   ⟨(some 66), .bin .sc .neq (.t 62) (.t 65), (some (61, false)), false, []⟩,
   ⟨(some 67), .pick (.t 61) (.c (.bool true)) (.t 66), none, false, []⟩,
   ⟨(some 12), .mv (.t 67), none, false, []⟩] none)
 (.ops [⟨(some 68), .mv (.t 11), none, false, []⟩,
   ⟨(some 69), .mv (.t 15), none, false, []⟩,
   ⟨(some 70), .bslice false 1 [.int .i64 0] [(0, 1, (.t 69))], none, false, []⟩,
   ⟨(some 71), .app false 1 8 (.t 68) (.t 70), none, false, []⟩,
   ⟨(some 11), .mv (.t 71), none, false, []⟩] none)))))
 (.ops [⟨(some 72), .bin .sc .add (.t 52) (.c (.int .i64 1)), none, false, []⟩,
   ⟨(some 52), .mv (.t 72), none, false, []⟩] none)))))))
 (.seq (.ops [⟨(some 73), .mv (.t 12), none, false, []⟩] none)
 (.cond (.t 73) (.ops [⟨(some 74), .mv (.t 0), none, false, []⟩,
   ⟨(some 75), .faddr 1 (.t 10), none, false, []⟩,
   ⟨(some 76), .load false 1 (.t 75), none, false, []⟩,
   ⟨(some 77), .mv (.t 11), none, false, []⟩,
   ⟨(some 78), .call (.c (.func 53 [] [])) [(.t 74), (.t 76), (.t 77)], none, false, []⟩,
   ⟨(some 9), .mv (.t 78), none, false, []⟩] none) .skip))))) .skip)))))
 (.seq (.ops [⟨(some 79), .mv (.t 2), none, false, []⟩,
   ⟨(some 80), .mv (.t 1), none, false, []⟩,
   ⟨(some 81), .mv (.t 9), none, false, []⟩,
   ⟨none, .mupd (.one (.i .i64)) (.t 79) (.t 80) (.t 81), none, false, []⟩] none)
 (.seq (.ops [⟨(some 82), .mv (.t 9), none, false, []⟩,
   ⟨(some 6), .mv (.t 82), none, false, []⟩] none)
 .ret)))))))) }
/- (*infer.solver).put -/
def f81 : AFunc :=
 { np := 3, ntmps := 38, results := [.tmp 6], frz := false, body :=
 (.seq (.ops [⟨(some 4), .box true (.t 1), none, false, []⟩,
   ⟨(some 6), .mv (.c (.int .i64 0)), none, false, []⟩] none)
 (.seq (.seq (.ops [⟨(some 10), .faddr 0 (.t 4), none, false, []⟩,
   ⟨(some 11), .load false 1 (.t 10), none, false, []⟩,
   ⟨(some 12), .bin .sc .eql (.t 11) (.c (.int .i64 1)), none, false, []⟩] none)
 (.cond (.t 12) (.seq (.ops [⟨(some 13), .mv (.t 2), none, false, []⟩,
   ⟨(some 14), .faddr 1 (.t 4), none, false, []⟩,
   ⟨(some 15), .load false 1 (.t 14), none, false, []⟩,
   ⟨(some 16), .iaddr none 1 (.t 13) (.t 15), none, false, []⟩,
   ⟨(some 17), .load false 1 (.t 16), none, false, []⟩,
   ⟨(some 6), .mv (.t 17), none, false, []⟩] none)
 .ret) .skip))
 (.seq (.ops [⟨(some 7), .mv (.c (.pl [] 0 .nil)), none, false, []⟩] none)
 (.seq (.seq (.ops [⟨(some 18), .faddr 3 (.t 4), none, false, []⟩,
   ⟨(some 19), .load false 1 (.t 18), none, false, []⟩,
   ⟨(some 20), .len 1 (.t 19), none, false, []⟩,
   ⟨(some 21), .mv (.c (.int .i64 0)), none, false, []⟩] none)
 (.block 0 (.loop (.seq (.ops [⟨(some 22), .bin .sc .lss (.t 21) (.t 20), none, false, []⟩] none)
 (.seq (.cond (.t 22) .skip (.exit 0))
 (.seq (.block 1 (.seq (.ops [⟨(some 23), .iaddr none 4 (.t 19) (.t 21), none, false, []⟩,
   ⟨(some 24), .load true 4 (.t 23), none, false, []⟩,
   ⟨(some 9), .alloc true [.int .i64 0, .int .i64 0, .str [], .pl [] 0 .nil], none, false, []⟩,
   ⟨none, .store 4 (.t 9) (.t 24), none, false, []⟩] none)
 (.ops [⟨(some 25), .mv (.t 7), none, false, []⟩,
   ⟨(some 26), .mv (.t 0), none, false, []⟩,
   ⟨(some 27), .load true 4 (.t 9), none, false, []⟩,
   ⟨(some 28), .mv (.t 2), none, false, []⟩,
   ⟨(some 29), .call (.c (.func 81 [] [])) [(.t 26), (.t 27), (.t 28)], none, false, []⟩,
   ⟨(some 30), .bslice false 1 [.int .i64 0] [(0, 1, (.t 29))], none, false, []⟩,
   ⟨(some 31), .app false 1 8 (.t 25) (.t 30), none, false, []⟩,
   ⟨(some 7), .mv (.t 31), none, false, []⟩] none)))
 (.ops [⟨(some 32), .bin .sc .add (.t 21) (.c (.int .i64 1)), none, false, []⟩,
   ⟨(some 21), .mv (.t 32), none, false, []⟩] none)))))))
 (.seq (.ops [⟨(some 33), .mv (.t 0), none, false, []⟩,
   ⟨(some 34), .faddr 2 (.t 4), none, false, []⟩,
   ⟨(some 35), .load false 1 (.t 34), none, false, []⟩,
   ⟨(some 36), .mv (.t 7), none, false, []⟩,
   ⟨(some 37), .call (.c (.func 53 [] [])) [(.t 33), (.t 35), (.t 36)], none, false, []⟩,
   ⟨(some 6), .mv (.t 37), none, false, []⟩] none)
 .ret))))) }
/- data.Con -/
def f82 : AFunc :=
 { np := 2, ntmps := 25, results := [.tmp 4, .tmp 5], frz := false, body :=
 (.seq (.ops [⟨(some 3), .box false (.t 1), none, false, []⟩,
   ⟨(some 4), .mv (.c (.int .i64 0)), none, false, []⟩,
   ⟨(some 5), .mv (.c (.int .i64 0)), none, false, []⟩] none)
 (.seq (.seq (.ops [⟨(some 9), .mv (.t 0), none, false, []⟩,
   ⟨(some 10), .len 1 (.t 9), none, false, []⟩,
   ⟨(some 11), .mv (.c (.int .i64 0)), none, false, []⟩] none)
 (.block 0 (.loop (.seq (.ops [⟨(some 12), .bin .sc .lss (.t 11) (.t 10), none, false, []⟩] none)
 (.seq (.cond (.t 12) .skip (.exit 0))
 (.seq (.block 1 (.seq (.ops [⟨(some 13), .mv (.t 11), none, false, []⟩,
   ⟨(some 14), .iaddr none 4 (.t 9) (.t 11), none, false, []⟩,
   ⟨(some 15), .load true 4 (.t 14), none, false, []⟩,
   ⟨(some 7), .alloc true [.str [], .int .i64 0, .pl [] 0 .nil, .pl [] 0 .nil], none, false, []⟩,
   ⟨(some 6), .mv (.t 13), none, false, []⟩,
   ⟨none, .store 4 (.t 7) (.t 15), none, false, []⟩] none)
 (.seq (.ops [⟨(some 16), .faddr 3 (.t 7), none, false, []⟩,
   ⟨(some 17), .load false 1 (.t 16), none, false, []⟩,
   ⟨(some 18), .mkfun 93 [] [(.t 3)], none, false, []⟩,
   ⟨(some 19), .call (.c (.func 92 [] [])) [(.t 17), (.t 18)], none, false, []⟩,
   ⟨(some 8), .mv (.t 19), none, false, []⟩] none)
 (.seq (.ops [⟨(some 20), .mv (.t 8), none, false, []⟩,
   ⟨(some 21), .bin .sc .geq (.t 20) (.c (.int .i64 0)), none, false, []⟩] none)
 (.cond (.t 21) (.seq (.ops [⟨(some 22), .mv (.t 6), none, false, []⟩,
   ⟨(some 23), .mv (.t 8), none, false, []⟩,
   ⟨(some 4), .mv (.t 22), none, false, []⟩,
   ⟨(some 5), .mv (.t 23), none, false, []⟩] none)
 .ret) .skip)))))
 (.ops [⟨(some 24), .bin .sc .add (.t 11) (.c (.int .i64 1)), none, false, []⟩,
   ⟨(some 11), .mv (.t 24), none, false, []⟩] none)))))))
 (.seq (.ops [⟨(some 4), .mv (.c (.int .i64 (-1))), none, false, []⟩,
   ⟨(some 5), .mv (.c (.int .i64 (-1))), none, false, []⟩] none)
 .ret))) }
/- data.Type -/
def f83 : AFunc :=
 { np := 3, ntmps := 79, results := [.tmp 6, .cell 7 4 true], frz := false, body :=
 (.seq (.ops [⟨(some 6), .mv (.c (.pl [] 0 .nil)), none, false, []⟩,
   ⟨(some 7), .alloc true [.int .i64 0, .int .i64 0, .str [], .pl [] 0 .nil], none, false, []⟩] none)
 (.seq (.seq (.ops [⟨(some 11), .mv (.t 1), none, false, []⟩,
   ⟨(some 12), .bin .sc .lss (.t 11) (.c (.int .i64 0)), none, false, []⟩,
   ⟨(some 13), .mv (.t 12), none, false, []⟩,
   ⟨(some 14), .mv (.t 1), (some (13, false)), false, []⟩,
   ⟨(some 15), .mv (.t 0), (some (13, false)), false, []⟩,
   ⟨(some 16), .len 1 (.t 15), (some (13, false)), false, []⟩,
   ⟨(some 17), .bin .sc .geq (.t 14) (.t 16), (some (13, false)), false, []⟩,
   ⟨(some 18), .pick (.t 13) (.c (.bool true)) (.t 17), none, false, []⟩,
   ⟨(some 19), .mv (.t 18), none, false, []⟩,
   ⟨(some 20), .mv (.t 2), (some (19, false)), false, []⟩,
   ⟨(some 21), .bin .sc .lss (.t 20) (.c (.int .i64 0)), (some (19, false)), false, []⟩,
   ⟨(some 22), .pick (.t 19) (.c (.bool true)) (.t 21), none, false, []⟩,
   ⟨(some 23), .mv (.t 22), none, false, []⟩,
   ⟨(some 24), .mv (.t 2), (some (23, false)), false, []⟩,
   ⟨(some 25), .mv (.t 0), (some (23, false)), false, []⟩,
   ⟨(some 26), .mv (.t 1), (some (23, false)), false, []⟩,
   ⟨(some 27), .iaddr none 4 (.t 25) (.t 26), (some (23, false)), false, []⟩,
   ⟨(some 28), .faddr 3 (.t 27), (some (23, false)), false, []⟩,
   ⟨(some 29), .load false 1 (.t 28), (some (23, false)), false, []⟩,
   ⟨(some 30), .len 1 (.t 29), (some (23, false)), false, []⟩,
   ⟨(some 31), .bin .sc .geq (.t 24) (.t 30), (some (23, false)), false, []⟩,
   ⟨(some 32), .pick (.t 23) (.c (.bool true)) (.t 31), none, false, []⟩] none)
 (.cond (.t 32) (.seq (.ops [⟨(some 33), .load true 4 (.t 7), none, false, []⟩,
   ⟨(some 6), .mv (.c (.pl [] 0 .nil)), none, false, []⟩,
   ⟨none, .store 4 (.t 7) (.t 33), none, false, []⟩] (some [[], [], [0, 1]]))
 .ret) .skip))
 (.seq (.seq (.ops [⟨(some 34), .mv (.t 0), none, false, []⟩,
   ⟨(some 35), .mv (.t 1), none, false, []⟩,
   ⟨(some 36), .iaddr none 4 (.t 34) (.t 35), none, false, []⟩,
   ⟨(some 37), .faddr 3 (.t 36), none, false, []⟩,
   ⟨(some 38), .load false 1 (.t 37), none, false, []⟩,
   ⟨(some 39), .mv (.t 2), none, false, []⟩,
   ⟨(some 40), .iaddr none 3 (.t 38) (.t 39), none, false, []⟩,
   ⟨(some 41), .faddr 2 (.t 40), none, false, []⟩,
   ⟨(some 42), .load false 1 (.t 41), none, false, []⟩,
   ⟨(some 43), .len 1 (.t 42), none, false, []⟩,
   ⟨(some 44), .mv (.c (.int .i64 0)), none, false, []⟩] none)
 (.block 0 (.loop (.seq (.ops [⟨(some 45), .bin .sc .lss (.t 44) (.t 43), none, false, []⟩] none)
 (.seq (.cond (.t 45) .skip (.exit 0))
 (.seq (.block 1 (.seq (.ops [⟨(some 46), .iaddr none 4 (.t 42) (.t 44), none, false, []⟩,
   ⟨(some 47), .load true 4 (.t 46), none, false, []⟩,
   ⟨(some 9), .alloc true [.int .i64 0, .int .i64 0, .str [], .pl [] 0 .nil], none, false, []⟩,
   ⟨none, .store 4 (.t 9) (.t 47), none, false, []⟩] none)
 (.ops [⟨(some 48), .mv (.t 6), none, false, []⟩,
   ⟨(some 49), .load true 4 (.t 9), none, false, []⟩,
   ⟨(some 50), .call (.c (.func 94 [] [])) [(.t 49)], none, false, []⟩,
   ⟨(some 51), .bslice false 1 [.int .i64 0, .int .i64 0, .str [], .pl [] 0 .nil] [(0, 4, (.t 50))], none, false, []⟩,
   ⟨(some 52), .app false 4 56 (.t 48) (.t 51), none, false, []⟩,
   ⟨(some 6), .mv (.t 52), none, false, []⟩] none)))
 (.ops [⟨(some 53), .bin .sc .add (.t 44) (.c (.int .i64 1)), none, false, []⟩,
   ⟨(some 44), .mv (.t 53), none, false, []⟩] none)))))))
 (.seq (.ops [⟨(some 54), .mv (.t 0), none, false, []⟩,
   ⟨(some 55), .mv (.t 1), none, false, []⟩,
   ⟨(some 56), .iaddr none 4 (.t 54) (.t 55), none, false, []⟩,
   ⟨(some 57), .faddr 0 (.t 56), none, false, []⟩,
   ⟨(some 58), .load false 1 (.t 57), none, false, []⟩,
   ⟨(some 59), .build [.int .i64 0, .int .i64 0, .str [], .pl [] 0 .nil] [(0, 1, (.c (.int .i64 2))), (2, 1, (.t 58))], none, false, []⟩,
   ⟨none, .store 4 (.t 7) (.t 59), none, false, []⟩] none)
 (.seq (.seq (.ops [⟨(some 60), .mv (.t 0), none, false, []⟩,
   ⟨(some 61), .mv (.t 1), none, false, []⟩,
   ⟨(some 62), .iaddr none 4 (.t 60) (.t 61), none, false, []⟩,
   ⟨(some 63), .faddr 2 (.t 62), none, false, []⟩,
   ⟨(some 64), .load false 1 (.t 63), none, false, []⟩,
   ⟨(some 65), .len 1 (.t 64), none, false, []⟩,
   ⟨(some 66), .mv (.c (.int .i64 0)), none, false, []⟩] none)
 (.block 2 (.loop (.seq (.ops [⟨(some 67), .bin .sc .lss (.t 66) (.t 65), none, false, []⟩] none)
 (.seq (.cond (.t 67) .skip (.exit 2))
 (.seq (.block 3 (.seq (.ops [⟨(some 68), .mv (.t 66), none, false, []⟩,
   ⟨(some 10), .mv (.t 68), none, false, []⟩] none)
 (.ops [⟨(some 69), .faddr 3 (.t 7), none, false, []⟩,
   ⟨(some 70), .load false 1 (.t 69), none, false, []⟩,
   ⟨(some 71), .mv (.t 10), none, false, []⟩,
   ⟨(some 72), .build [.int .i64 0, .int .i64 0, .str [], .pl [] 0 .nil] [(0, 1, (.c (.int .i64 1))), (1, 1, (.t 71))], none, false, []⟩,
   ⟨(some 73), .bslice false 1 [.int .i64 0, .int .i64 0, .str [], .pl [] 0 .nil] [(0, 4, (.t 72))], none, false, []⟩,
   ⟨(some 74), .app false 4 56 (.t 70) (.t 73), none, false, []⟩,
   ⟨(some 75), .faddr 3 (.t 7), none, false, []⟩,
   ⟨none, .store 1 (.t 75) (.t 74), none, false, []⟩] none)))
 (.ops [⟨(some 76), .bin .sc .add (.t 66) (.c (.int .i64 1)), none, false, []⟩,
   ⟨(some 66), .mv (.t 76), none, false, []⟩] none)))))))
 (.seq (.ops [⟨(some 77), .mv (.t 6), none, false, []⟩,
   ⟨(some 78), .load true 4 (.t 7), none, false, []⟩,
   ⟨(some 6), .mv (.t 77), none, false, []⟩,
   ⟨none, .store 4 (.t 7) (.t 78), none, false, []⟩] (some [[], [], [0], [0, 1, 2]]))
 .ret)))))) }
/- (*infer.solver).generalize -/
def f84 : AFunc :=
 { np := 2, ntmps := 48, results := [], frz := false, body :=
 (.seq (.ops [⟨(some 7), .mv (.t 0), none, false, []⟩,
   ⟨(some 8), .mv (.t 1), none, false, []⟩,
   ⟨(some 9), .call (.c (.func 58 [] [])) [(.t 7), (.t 8)], none, false, []⟩,
   ⟨(some 1), .mv (.t 9), none, false, []⟩] none)
 (.seq (.ops [⟨(some 10), .mv (.t 0), none, false, []⟩,
   ⟨(some 11), .nilck (.t 10), none, false, []⟩,
   ⟨(some 12), .faddr 0 (.t 11), none, false, []⟩,
   ⟨(some 13), .load false 1 (.t 12), none, false, []⟩,
   ⟨(some 14), .mv (.t 1), none, false, []⟩,
   ⟨(some 15), .iaddr none 4 (.t 13) (.t 14), none, false, []⟩,
   ⟨(some 4), .mv (.t 15), none, false, []⟩] none)
 (.seq (.seq (.ops [⟨(some 16), .mv (.t 4), none, false, []⟩,
   ⟨(some 17), .nilck (.t 16), none, false, []⟩,
   ⟨(some 18), .faddr 0 (.t 17), none, false, []⟩,
   ⟨(some 19), .load false 1 (.t 18), none, false, []⟩,
   ⟨(some 20), .not (.t 19), none, false, []⟩,
   ⟨(some 21), .mv (.t 20), none, false, []⟩,
   ⟨(some 22), .mv (.t 4), (some (21, true)), false, []⟩,
   ⟨(some 23), .nilck (.t 22), (some (21, true)), false, []⟩,
   ⟨(some 24), .faddr 3 (.t 23), (some (21, true)), false, []⟩,
   ⟨(some 25), .load false 1 (.t 24), (some (21, true)), false, []⟩,
   ⟨(some 26), .mv (.t 0), (some (21, true)), false, []⟩,
   ⟨(some 27), .nilck (.t 26), (some (21, true)), false, []⟩,
   ⟨(some 28), .faddr 2 (.t 27), (some (21, true)), false, []⟩,
   ⟨(some 29), .load false 1 (.t 28), (some (21, true)), false, []⟩,
   ⟨(some 30), .bin .sc .gtr (.t 25) (.t 29), (some (21, true)), false, []⟩,
   ⟨(some 31), .pick (.t 21) (.t 30) (.c (.bool false)), none, false, []⟩] (some [[], [0], [0, 1], [0, 1, 2], [0, 1, 2, 3], [0, 1, 2, 3, 4], [0, 1, 2, 3, 4, 5], [0, 1, 2, 3, 4, 5, 6], [0, 1, 2, 3, 4, 5, 6, 7], [0, 1, 2, 3, 4, 5, 6, 7, 8], [0, 1, 2, 3, 4, 5], [0, 1, 2, 3, 4, 5, 10], [0, 1, 2, 3, 4, 5, 10, 11], [0, 1, 2, 3, 4, 5, 10, 11, 12], [0, 1, 2, 3, 4, 5, 6, 7, 8, 9, 10, 11, 12, 13], [0, 1, 2, 3, 4, 5, 6, 7, 8, 9, 10, 11, 12, 13, 14]]))
 (.cond (.t 31) (.ops [⟨(some 32), .mv (.t 4), none, false, []⟩,
   ⟨(some 33), .nilck (.t 32), none, false, []⟩,
   ⟨(some 34), .faddr 3 (.t 33), none, false, []⟩,
   ⟨none, .store 1 (.t 34) (.c (.int .i64 1073741824)), none, false, []⟩] none) .skip))
 (.seq (.ops [⟨(some 35), .mv (.t 4), none, false, []⟩,
   ⟨(some 36), .nilck (.t 35), none, false, []⟩,
   ⟨(some 37), .faddr 2 (.t 36), none, false, []⟩,
   ⟨(some 38), .load false 1 (.t 37), none, false, []⟩,
   ⟨(some 39), .len 1 (.t 38), none, false, []⟩,
   ⟨(some 40), .mv (.c (.int .i64 0)), none, false, []⟩] none)
 (.block 0 (.loop (.seq (.ops [⟨(some 41), .bin .sc .lss (.t 40) (.t 39), none, false, []⟩] none)
 (.seq (.cond (.t 41) .skip (.exit 0))
 (.seq (.block 1 (.seq (.ops [⟨(some 42), .iaddr none 1 (.t 38) (.t 40), none, false, []⟩,
   ⟨(some 43), .load false 1 (.t 42), none, false, []⟩,
   ⟨(some 6), .mv (.t 43), none, false, []⟩] none)
 (.ops [⟨(some 44), .mv (.t 0), none, false, []⟩,
   ⟨(some 45), .mv (.t 6), none, false, []⟩,
   ⟨(some 46), .call (.c (.func 84 [] [])) [(.t 44), (.t 45)], none, false, []⟩] none)))
 (.ops [⟨(some 47), .bin .sc .add (.t 40) (.c (.int .i64 1)), none, false, []⟩,
   ⟨(some 40), .mv (.t 47), none, false, []⟩] none)))))))))) }
/- term.turned -/
def f85 : AFunc :=
 { np := 2, ntmps := 43, results := [.cell 4 4 true], frz := true, body :=
 (.seq (.ops [⟨(some 2), .box true (.t 0), none, false, []⟩,
   ⟨(some 4), .alloc true [.int .i64 0, .int .i64 0, .str [], .pl [] 0 .nil], none, false, []⟩] none)
 (.seq (.seq (.ops [⟨(some 9), .faddr 0 (.t 2), none, false, []⟩,
   ⟨(some 10), .load false 1 (.t 9), none, false, []⟩,
   ⟨(some 11), .bin .sc .eql (.t 10) (.c (.int .i64 1)), none, false, []⟩] none)
 (.cond (.t 11) (.seq (.seq (.ops [⟨(some 13), .mv (.t 1), none, false, []⟩,
   ⟨(some 14), .faddr 1 (.t 2), none, false, []⟩,
   ⟨(some 15), .load false 1 (.t 14), none, false, []⟩,
   ⟨(some 16), .call (.t 13) [(.t 15)], none, false, []⟩,
   ⟨(some 12), .mv (.t 16), none, false, []⟩,
   ⟨(some 17), .extract 0 (.t 12), none, false, []⟩,
   ⟨(some 18), .extract 1 (.t 12), none, false, []⟩,
   ⟨(some 5), .alloc true [.int .i64 0, .int .i64 0, .str [], .pl [] 0 .nil], none, false, []⟩,
   ⟨none, .store 4 (.t 5) (.t 17), none, false, []⟩,
   ⟨(some 6), .mv (.t 18), none, false, []⟩] none)
 (.seq (.ops [⟨(some 19), .mv (.t 6), none, false, []⟩] none)
 (.cond (.t 19) (.seq (.ops [⟨(some 20), .load true 4 (.t 5), none, false, []⟩,
   ⟨none, .store 4 (.t 4) (.t 20), none, false, []⟩] none)
 .ret) .skip)))
 (.seq (.ops [⟨(some 21), .load true 4 (.t 2), none, false, []⟩,
   ⟨none, .store 4 (.t 4) (.t 21), none, false, []⟩] none)
 .ret)) .skip))
 (.seq (.ops [⟨(some 22), .faddr 3 (.t 2), none, false, []⟩,
   ⟨(some 23), .load false 1 (.t 22), none, false, []⟩,
   ⟨(some 24), .call (.c (.func 95 [] [])) [(.t 23)], none, false, []⟩,
   ⟨(some 25), .faddr 3 (.t 2), none, false, []⟩,
   ⟨none, .store 1 (.t 25) (.t 24), none, false, []⟩] none)
 (.seq (.seq (.ops [⟨(some 26), .faddr 3 (.t 2), none, false, []⟩,
   ⟨(some 27), .load false 1 (.t 26), none, false, []⟩,
   ⟨(some 28), .len 1 (.t 27), none, false, []⟩,
   ⟨(some 29), .mv (.c (.int .i64 0)), none, false, []⟩] none)
 (.block 0 (.loop (.seq (.ops [⟨(some 30), .bin .sc .lss (.t 29) (.t 28), none, false, []⟩] none)
 (.seq (.cond (.t 30) .skip (.exit 0))
 (.seq (.block 1 (.seq (.ops [⟨(some 31), .mv (.t 29), none, false, []⟩,
   ⟨(some 32), .iaddr none 4 (.t 27) (.t 29), none, false, []⟩,
   ⟨(some 33), .load true 4 (.t 32), none, false, []⟩,
   ⟨(some 8), .alloc true [.int .i64 0, .int .i64 0, .str [], .pl [] 0 .nil], none, false, []⟩,
   ⟨(some 7), .mv (.t 31), none, false, []⟩,
   ⟨none, .store 4 (.t 8) (.t 33), none, false, []⟩] none)
 (.ops [⟨(some 34), .faddr 3 (.t 2), none, false, []⟩,
   ⟨(some 35), .load false 1 (.t 34), none, true, []⟩,
   ⟨(some 36), .mv (.t 7), none, false, []⟩,
   ⟨(some 37), .load true 4 (.t 8), none, false, []⟩,
   ⟨(some 38), .mv (.t 1), none, false, []⟩,
   ⟨(some 39), .call (.c (.func 85 [] [])) [(.t 37), (.t 38)], none, false, []⟩,
   ⟨(some 40), .iaddr none 4 (.t 35) (.t 36), none, false, []⟩,
   ⟨none, .store 4 (.t 40) (.t 39), none, false, []⟩] (some [[], [0], [], [], [], [3, 4], [0, 1, 2, 3, 4, 5], [0, 1, 2, 3, 4, 5, 6]]))))
 (.ops [⟨(some 41), .bin .sc .add (.t 29) (.c (.int .i64 1)), none, false, []⟩,
   ⟨(some 29), .mv (.t 41), none, false, []⟩] none)))))))
 (.seq (.ops [⟨(some 42), .load true 4 (.t 2), none, false, []⟩,
   ⟨none, .store 4 (.t 4) (.t 42), none, false, []⟩] none)
 .ret))))) }
/- term.Canon$1 -/
def f86 : AFunc :=
 { np := 2, ntmps := 9, results := [.cell 3 4 true, .tmp 4], frz := false, body :=
 (.seq (.ops [⟨(some 3), .alloc true [.int .i64 0, .int .i64 0, .str [], .pl [] 0 .nil], none, false, []⟩,
   ⟨(some 4), .mv (.c (.bool false)), none, false, []⟩] none)
 (.seq (.ops [⟨(some 5), .load false 1 (.t 1), none, false, []⟩,
   ⟨(some 6), .mv (.t 0), none, false, []⟩,
   ⟨(some 7), .lookup (.one (.i .i64)) (.int .i64 0) false (.t 5) (.t 6), none, false, []⟩,
   ⟨(some 8), .build [.int .i64 0, .int .i64 0, .str [], .pl [] 0 .nil] [(0, 1, (.c (.int .i64 1))), (1, 1, (.t 7))], none, false, []⟩,
   ⟨none, .store 4 (.t 3) (.t 8), none, false, []⟩,
   ⟨(some 4), .mv (.c (.bool true)), none, false, []⟩] none)
 .ret)) }
/- term.each -/
def f87 : AFunc :=
 { np := 2, ntmps := 24, results := [], frz := false, body :=
 (.seq (.ops [⟨(some 2), .box true (.t 0), none, false, []⟩] none)
 (.seq (.seq (.ops [⟨(some 6), .faddr 0 (.t 2), none, false, []⟩,
   ⟨(some 7), .load false 1 (.t 6), none, false, []⟩,
   ⟨(some 8), .bin .sc .eql (.t 7) (.c (.int .i64 1)), none, false, []⟩] none)
 (.cond (.t 8) (.ops [⟨(some 9), .mv (.t 1), none, false, []⟩,
   ⟨(some 10), .faddr 1 (.t 2), none, false, []⟩,
   ⟨(some 11), .load false 1 (.t 10), none, false, []⟩,
   ⟨(some 12), .call (.t 9) [(.t 11)], none, false, []⟩] none) .skip))
 (.seq (.ops [⟨(some 13), .faddr 3 (.t 2), none, false, []⟩,
   ⟨(some 14), .load false 1 (.t 13), none, false, []⟩,
   ⟨(some 15), .len 1 (.t 14), none, false, []⟩,
   ⟨(some 16), .mv (.c (.int .i64 0)), none, false, []⟩] none)
 (.block 0 (.loop (.seq (.ops [⟨(some 17), .bin .sc .lss (.t 16) (.t 15), none, false, []⟩] none)
 (.seq (.cond (.t 17) .skip (.exit 0))
 (.seq (.block 1 (.seq (.ops [⟨(some 18), .iaddr none 4 (.t 14) (.t 16), none, false, []⟩,
   ⟨(some 19), .load true 4 (.t 18), none, false, []⟩,
   ⟨(some 5), .alloc true [.int .i64 0, .int .i64 0, .str [], .pl [] 0 .nil], none, false, []⟩,
   ⟨none, .store 4 (.t 5) (.t 19), none, false, []⟩] none)
 (.ops [⟨(some 20), .load true 4 (.t 5), none, false, []⟩,
   ⟨(some 21), .mv (.t 1), none, false, []⟩,
   ⟨(some 22), .call (.c (.func 87 [] [])) [(.t 20), (.t 21)], none, false, []⟩] none)))
 (.ops [⟨(some 23), .bin .sc .add (.t 16) (.c (.int .i64 1)), none, false, []⟩,
   ⟨(some 16), .mv (.t 23), none, false, []⟩] none))))))))) }
/- term.Vars$1 -/
def f88 : AFunc :=
 { np := 3, ntmps := 14, results := [], frz := false, body :=
 (.seq (.ops [⟨(some 4), .load false 1 (.t 1), none, false, []⟩,
   ⟨(some 5), .mv (.t 0), none, false, []⟩,
   ⟨(some 6), .lookup (.one (.i .i64)) (.bool false) false (.t 4) (.t 5), none, false, []⟩,
   ⟨(some 7), .not (.t 6), none, false, []⟩] none)
 (.cond (.t 7) (.seq (.ops [⟨(some 8), .load false 1 (.t 1), none, false, []⟩,
   ⟨(some 9), .mv (.t 0), none, false, []⟩,
   ⟨none, .mupd (.one (.i .i64)) (.t 8) (.t 9) (.c (.bool true)), none, false, []⟩] none)
 (.ops [⟨(some 10), .load false 1 (.t 2), none, false, []⟩,
   ⟨(some 11), .mv (.t 0), none, false, []⟩,
   ⟨(some 12), .bslice false 1 [.int .i64 0] [(0, 1, (.t 11))], none, false, []⟩,
   ⟨(some 13), .app false 1 8 (.t 10) (.t 12), none, false, []⟩,
   ⟨none, .store 1 (.t 2) (.t 13), none, false, []⟩] none)) .skip)) }
/- warpref9.row -/
def f89 : AFunc :=
 { np := 1, ntmps := 22, results := [.tmp 2], frz := false, body :=
 (.seq (.ops [⟨(some 2), .mv (.c (.bool false)), none, false, []⟩] none)
 (.seq (.seq (.ops [⟨(some 3), .mv (.c (.int .i64 0)), none, false, []⟩] none)
 (.block 0 (.loop (.seq (.seq (.ops [⟨(some 4), .mv (.t 3), none, false, []⟩,
   ⟨(some 5), .mv (.t 0), none, false, []⟩,
   ⟨(some 6), .len 0 (.t 5), none, false, []⟩,
   ⟨(some 7), .bin .sc .lss (.t 4) (.t 6), none, false, []⟩] none)
 (.cond (.t 7) .skip (.exit 0)))
 (.seq (.block 1 (.seq (.ops [⟨(some 10), .mv (.t 0), none, false, []⟩,
   ⟨(some 11), .mv (.t 3), none, false, []⟩,
   ⟨(some 12), .index (.t 10) (.t 11), none, false, []⟩,
   ⟨(some 13), .call (.c (.func 64 [] [])) [(.t 12)], none, false, []⟩,
   ⟨(some 14), .not (.t 13), none, false, []⟩] none)
 (.cond (.t 14) (.seq (.ops [⟨(some 2), .mv (.c (.bool false)), none, false, []⟩] none)
 .ret) .skip)))
 (.ops [⟨(some 8), .mv (.t 3), none, false, []⟩,
   ⟨(some 9), .bin .sc .add (.t 8) (.c (.int .i64 1)), none, false, []⟩,
   ⟨(some 3), .mv (.t 9), none, false, []⟩] none))))))
 (.seq (.ops [⟨(some 15), .mv (.t 0), none, false, []⟩,
   ⟨(some 16), .bin .sc .neq (.t 15) (.c (.str [])), none, false, []⟩,
   ⟨(some 17), .mv (.t 16), none, false, []⟩,
   ⟨(some 18), .mv (.t 0), (some (17, true)), false, []⟩,
   ⟨(some 19), .len 0 (.t 18), (some (17, true)), false, []⟩,
   ⟨(some 20), .bin .sc .leq (.t 19) (.c (.int .i64 30)), (some (17, true)), false, []⟩,
   ⟨(some 21), .pick (.t 17) (.t 20) (.c (.bool false)), none, false, []⟩,
   ⟨(some 2), .mv (.t 21), none, false, []⟩] none)
 .ret))) }
/- warpref9.place -/
def f90 : AFunc :=
 { np := 2, ntmps := 19, results := [.tmp 4], frz := false, body :=
 (.seq (.ops [⟨(some 4), .mv (.c (.int .i64 0)), none, false, []⟩] none)
 (.seq (.seq (.ops [⟨(some 5), .mv (.c (.int .i64 0)), none, false, []⟩] none)
 (.block 0 (.loop (.seq (.seq (.ops [⟨(some 6), .mv (.t 5), none, false, []⟩,
   ⟨(some 7), .mv (.t 0), none, false, []⟩,
   ⟨(some 8), .len 1 (.t 7), none, false, []⟩,
   ⟨(some 9), .bin .sc .lss (.t 6) (.t 8), none, false, []⟩] none)
 (.cond (.t 9) .skip (.exit 0)))
 (.seq (.block 1 (.seq (.ops [⟨(some 12), .mv (.t 0), none, false, []⟩,
   ⟨(some 13), .mv (.t 5), none, false, []⟩,
   ⟨(some 14), .iaddr none 1 (.t 12) (.t 13), none, false, []⟩,
   ⟨(some 15), .load false 1 (.t 14), none, false, []⟩,
   ⟨(some 16), .mv (.t 1), none, false, []⟩,
   ⟨(some 17), .bin .sc .eql (.t 15) (.t 16), none, false, []⟩] none)
 (.cond (.t 17) (.seq (.ops [⟨(some 18), .mv (.t 5), none, false, []⟩,
   ⟨(some 4), .mv (.t 18), none, false, []⟩] none)
 .ret) .skip)))
 (.ops [⟨(some 10), .mv (.t 5), none, false, []⟩,
   ⟨(some 11), .bin .sc .add (.t 10) (.c (.int .i64 1)), none, false, []⟩,
   ⟨(some 5), .mv (.t 11), none, false, []⟩] none))))))
 (.seq (.ops [⟨(some 4), .mv (.c (.int .i64 (-1))), none, false, []⟩] none)
 .ret))) }
/- (*warpref9.parser).typ -/
def f91 : AFunc :=
 { np := 2, ntmps := 34, results := [.cell 4 4 true], frz := false, body :=
 (.seq (.ops [⟨(some 4), .alloc true [.int .i64 0, .int .i64 0, .str [], .pl [] 0 .nil], none, false, []⟩] none)
 (.seq (.ops [⟨(some 7), .mv (.t 0), none, false, []⟩,
   ⟨(some 8), .call (.c (.func 40 [] [])) [(.t 7), (.c (.int .i64 2)), (.c (.str []))], none, false, []⟩,
   ⟨(some 5), .mv (.t 8), none, false, []⟩] none)
 (.seq (.ops [⟨(some 9), .mv (.t 0), none, false, []⟩,
   ⟨(some 10), .mv (.t 1), none, false, []⟩,
   ⟨(some 11), .call (.c (.func 72 [] [])) [(.t 9), (.t 10)], none, false, []⟩,
   ⟨(some 6), .alloc true [.int .i64 0, .int .i64 0, .str [], .pl [] 0 .nil], none, false, []⟩,
   ⟨none, .store 4 (.t 6) (.t 11), none, false, []⟩] none)
 (.seq (.block 0 (.loop (.seq (.seq (.ops [⟨(some 12), .mv (.t 5), none, false, []⟩,
   ⟨(some 13), .mv (.t 12), none, false, []⟩,
   ⟨(some 14), .mv (.t 0), (some (13, true)), false, []⟩,
   ⟨(some 15), .call (.c (.func 71 [] [])) [(.t 14)], (some (13, true)), false, []⟩,
   ⟨(some 16), .pick (.t 13) (.t 15) (.c (.bool false)), none, false, []⟩] none)
 (.cond (.t 16) .skip (.exit 0)))
 (.block 1 (.ops [⟨(some 17), .faddr 3 (.t 6), none, false, []⟩,
   ⟨(some 18), .load false 1 (.t 17), none, true, []⟩,
   ⟨(some 19), .mv (.t 0), none, false, []⟩,
   ⟨(some 20), .mv (.t 1), none, false, []⟩,
   ⟨(some 21), .call (.c (.func 72 [] [])) [(.t 19), (.t 20)], none, false, []⟩,
   ⟨(some 22), .bslice false 1 [.int .i64 0, .int .i64 0, .str [], .pl [] 0 .nil] [(0, 4, (.t 21))], none, false, []⟩,
   ⟨(some 23), .app false 4 56 (.t 18) (.t 22), none, false, []⟩,
   ⟨(some 24), .faddr 3 (.t 6), none, false, []⟩,
   ⟨none, .store 1 (.t 24) (.t 23), none, false, []⟩] (some [[], [0], [], [], [2, 3], [2, 3, 4], [0, 1, 2, 3, 4, 5], [0, 1, 2, 3, 4, 5, 6], [0, 1, 2, 3, 4, 5, 6, 7]]))))))
 (.seq (.seq (.ops [⟨(some 25), .mv (.t 0), none, false, []⟩,
   ⟨(some 26), .call (.c (.func 45 [] [])) [(.t 25), (.c (.str [45, 62]))], none, false, []⟩] none)
 (.cond (.t 26) (.seq (.ops [⟨(some 27), .load true 4 (.t 6), none, true, []⟩,
   ⟨(some 28), .mv (.t 0), none, false, []⟩,
   ⟨(some 29), .mv (.t 1), none, false, []⟩,
   ⟨(some 30), .call (.c (.func 91 [] [])) [(.t 28), (.t 29)], none, false, []⟩,
   ⟨(some 31), .bslice false 2 [.int .i64 0, .int .i64 0, .str [], .pl [] 0 .nil, .int .i64 0, .int .i64 0, .str [], .pl [] 0 .nil] [(0, 4, (.t 27)), (4, 4, (.t 30))], none, false, []⟩,
   ⟨(some 32), .build [.int .i64 0, .int .i64 0, .str [], .pl [] 0 .nil] [(0, 1, (.c (.int .i64 2))), (2, 1, (.c (.str [45, 62]))), (3, 1, (.t 31))], none, false, []⟩,
   ⟨none, .store 4 (.t 4) (.t 32), none, false, []⟩] (some [[], [], [], [1, 2], [0, 1, 2, 3], [0, 1, 2, 3, 4], [0, 1, 2, 3, 4, 5]]))
 .ret) .skip))
 (.seq (.ops [⟨(some 33), .load true 4 (.t 6), none, false, []⟩,
   ⟨none, .store 4 (.t 4) (.t 33), none, false, []⟩] none)
 .ret)))))) }
/- slices.IndexFunc[[]api.Con,api.Con] -/
def f92 : AFunc :=
 { np := 2, ntmps := 19, results := [.tmp 4], frz := false, body :=
 (.seq (.ops [⟨(some 4), .mv (.c (.int .i64 0)), none, false, []⟩] none)
 (.seq (.seq (.ops [⟨(some 6), .mv (.t 0), none, false, []⟩,
   ⟨(some 7), .len 1 (.t 6), none, false, []⟩,
   ⟨(some 8), .mv (.c (.int .i64 0)), none, false, []⟩] none)
 (.block 0 (.loop (.seq (.ops [⟨(some 9), .bin .sc .lss (.t 8) (.t 7), none, false, []⟩] none)
 (.seq (.cond (.t 9) .skip (.exit 0))
 (.seq (.block 1 (.seq (.ops [⟨(some 10), .mv (.t 8), none, false, []⟩,
   ⟨(some 5), .mv (.t 10), none, false, []⟩] none)
 (.seq (.ops [⟨(some 11), .mv (.t 1), none, false, []⟩,
   ⟨(some 12), .mv (.t 0), none, false, []⟩,
   ⟨(some 13), .mv (.t 5), none, false, []⟩,
   ⟨(some 14), .iaddr none 3 (.t 12) (.t 13), none, false, []⟩,
   ⟨(some 15), .load true 3 (.t 14), none, false, []⟩,
   ⟨(some 16), .call (.t 11) [(.t 15)], none, false, []⟩] none)
 (.cond (.t 16) (.seq (.ops [⟨(some 17), .mv (.t 5), none, false, []⟩,
   ⟨(some 4), .mv (.t 17), none, false, []⟩] none)
 .ret) .skip))))
 (.ops [⟨(some 18), .bin .sc .add (.t 8) (.c (.int .i64 1)), none, false, []⟩,
   ⟨(some 8), .mv (.t 18), none, false, []⟩] none)))))))
 (.seq (.ops [⟨(some 4), .mv (.c (.int .i64 (-1))), none, false, []⟩] none)
 .ret))) }
/- data.Con$1 -/
def f93 : AFunc :=
 { np := 2, ntmps := 8, results := [.tmp 3], frz := false, body :=
 (.seq (.ops [⟨(some 2), .box true (.t 0), none, false, []⟩,
   ⟨(some 3), .mv (.c (.bool false)), none, false, []⟩] none)
 (.seq (.ops [⟨(some 4), .faddr 0 (.t 2), none, false, []⟩,
   ⟨(some 5), .load false 1 (.t 4), none, false, []⟩,
   ⟨(some 6), .load false 1 (.t 1), none, false, []⟩,
   ⟨(some 7), .bin .sc .eql (.t 5) (.t 6), none, false, []⟩,
   ⟨(some 3), .mv (.t 7), none, false, []⟩] none)
 .ret)) }
/- data.copied -/
def f94 : AFunc :=
 { np := 1, ntmps := 25, results := [.cell 2 4 true], frz := true, body :=
 (.seq (.ops [⟨(some 1), .box true (.t 0), none, false, []⟩,
   ⟨(some 2), .alloc true [.int .i64 0, .int .i64 0, .str [], .pl [] 0 .nil], none, false, []⟩] none)
 (.seq (.ops [⟨(some 5), .faddr 3 (.t 1), none, false, []⟩,
   ⟨(some 6), .load false 1 (.t 5), none, false, []⟩,
   ⟨(some 7), .call (.c (.func 95 [] [])) [(.t 6)], none, false, []⟩,
   ⟨(some 8), .faddr 3 (.t 1), none, false, []⟩,
   ⟨none, .store 1 (.t 8) (.t 7), none, false, []⟩] none)
 (.seq (.seq (.ops [⟨(some 9), .faddr 3 (.t 1), none, false, []⟩,
   ⟨(some 10), .load false 1 (.t 9), none, false, []⟩,
   ⟨(some 11), .len 1 (.t 10), none, false, []⟩,
   ⟨(some 12), .mv (.c (.int .i64 0)), none, false, []⟩] none)
 (.block 0 (.loop (.seq (.ops [⟨(some 13), .bin .sc .lss (.t 12) (.t 11), none, false, []⟩] none)
 (.seq (.cond (.t 13) .skip (.exit 0))
 (.seq (.block 1 (.seq (.ops [⟨(some 14), .mv (.t 12), none, false, []⟩,
   ⟨(some 15), .iaddr none 4 (.t 10) (.t 12), none, false, []⟩,
   ⟨(some 16), .load true 4 (.t 15), none, false, []⟩,
   ⟨(some 4), .alloc true [.int .i64 0, .int .i64 0, .str [], .pl [] 0 .nil], none, false, []⟩,
   ⟨(some 3), .mv (.t 14), none, false, []⟩,
   ⟨none, .store 4 (.t 4) (.t 16), none, false, []⟩] none)
 (.ops [⟨(some 17), .faddr 3 (.t 1), none, false, []⟩,
   ⟨(some 18), .load false 1 (.t 17), none, true, []⟩,
   ⟨(some 19), .mv (.t 3), none, false, []⟩,
   ⟨(some 20), .load true 4 (.t 4), none, false, []⟩,
   ⟨(some 21), .call (.c (.func 94 [] [])) [(.t 20)], none, false, []⟩,
   ⟨(some 22), .iaddr none 4 (.t 18) (.t 19), none, false, []⟩,
   ⟨none, .store 4 (.t 22) (.t 21), none, false, []⟩] (some [[], [0], [], [], [3], [0, 1, 2, 3, 4], [0, 1, 2, 3, 4, 5]]))))
 (.ops [⟨(some 23), .bin .sc .add (.t 12) (.c (.int .i64 1)), none, false, []⟩,
   ⟨(some 12), .mv (.t 23), none, false, []⟩] none)))))))
 (.seq (.ops [⟨(some 24), .load true 4 (.t 1), none, false, []⟩,
   ⟨none, .store 4 (.t 2) (.t 24), none, false, []⟩] none)
 .ret)))) }
/- slices.Clone[[]api.Type,api.Type] -/
def f95 : AFunc :=
 { np := 1, ntmps := 8, results := [.tmp 2], frz := false, body :=
 (.seq (.ops [⟨(some 2), .mv (.c (.pl [] 0 .nil)), none, false, []⟩] none)
 (.seq (.seq (.ops [⟨(some 3), .mv (.t 0), none, false, []⟩,
   ⟨(some 4), .bin .slice .eql (.t 3) (.c (.pl [] 0 .nil)), none, false, []⟩] none)
 (.cond (.t 4) (.seq (.ops [⟨(some 2), .mv (.c (.pl [] 0 .nil)), none, false, []⟩] none)
 .ret) .skip))
 (.seq (.ops [⟨(some 5), .bslice false 0 [] [], none, false, []⟩,
   ⟨(some 6), .mv (.t 0), none, false, []⟩,
   ⟨(some 7), .app true 4 56 (.t 5) (.t 6), none, false, []⟩,
   ⟨(some 2), .mv (.t 7), none, false, []⟩] none)
 .ret))) }
end Go.Am.Infer
