/- The code of the functions, for the abstract machine: printed by a program of this claim. -/
import Derived.Test.YthobghcnjampjaaAmA
set_option maxRecDepth 100000
namespace Go.Am.DataCons
open Go.Am
/- warplaw12.DataCons -/
def f9 : AFunc :=
 { np := 2, ntmps := 147, results := [.tmp 4], frz := false, body :=
 (.seq (.ops [⟨(some 4), .mv (.c (.bool false)), none, false, []⟩] none)
 (.seq (.ops [⟨(some 15), .mv (.t 0), none, false, []⟩,
   ⟨(some 16), .cint .i64 (.t 15), none, false, []⟩,
   ⟨(some 17), .bin .sc .rem (.t 16) (.c (.int .i64 5)), none, false, []⟩,
   ⟨(some 5), .mv (.t 17), none, false, []⟩] none)
 (.seq (.ops [⟨(some 18), .build [.str [], .int .i64 0, .pl [] 0 .nil] [(0, 1, (.c (.str [65])))], none, false, []⟩,
   ⟨(some 19), .build [.int .i64 0, .int .i64 0, .str [], .pl [] 0 .nil] [(0, 1, (.c (.int .i64 2))), (2, 1, (.c (.str [73, 110, 116])))], none, false, []⟩,
   ⟨(some 20), .bslice false 1 [.int .i64 0, .int .i64 0, .str [], .pl [] 0 .nil] [(0, 4, (.t 19))], none, false, []⟩,
   ⟨(some 21), .build [.str [], .int .i64 0, .pl [] 0 .nil] [(0, 1, (.c (.str [66]))), (2, 1, (.t 20))], none, false, []⟩,
   ⟨(some 22), .bslice false 2 [.str [], .int .i64 0, .pl [] 0 .nil, .str [], .int .i64 0, .pl [] 0 .nil] [(0, 3, (.t 18)), (3, 3, (.t 21))], none, false, []⟩,
   ⟨(some 23), .build [.str [], .int .i64 0, .pl [] 0 .nil, .pl [] 0 .nil] [(0, 1, (.c (.str [68]))), (3, 1, (.t 22))], none, false, []⟩,
   ⟨(some 6), .alloc true [.str [], .int .i64 0, .pl [] 0 .nil, .pl [] 0 .nil], none, false, []⟩,
   ⟨none, .store 4 (.t 6) (.t 23), none, false, []⟩] none)
 (.seq (.seq (.ops [⟨(some 7), .mv (.c (.int .i64 0)), none, false, []⟩] none)
 (.block 0 (.loop (.seq (.seq (.ops [⟨(some 24), .mv (.t 7), none, false, []⟩,
   ⟨(some 25), .mv (.t 5), none, false, []⟩,
   ⟨(some 26), .bin .sc .lss (.t 24) (.t 25), none, false, []⟩] none)
 (.cond (.t 26) .skip (.exit 0)))
 (.seq (.block 1 (.ops [⟨(some 29), .faddr 2 (.t 6), none, false, []⟩,
   ⟨(some 30), .load false 1 (.t 29), none, false, []⟩,
   ⟨(some 31), .bslice false 5 [.str [], .str [], .str [], .str [], .str []] [(0, 1, (.c (.str [112]))), (1, 1, (.c (.str [113]))), (2, 1, (.c (.str [114]))), (3, 1, (.c (.str [115]))), (4, 1, (.c (.str [116])))], none, false, []⟩,
   ⟨(some 32), .mv (.t 7), none, false, []⟩,
   ⟨(some 33), .iaddr none 1 (.t 31) (.t 32), none, false, []⟩,
   ⟨(some 34), .load false 1 (.t 33), none, false, []⟩,
   ⟨(some 35), .bslice false 1 [.str []] [(0, 1, (.t 34))], none, false, []⟩,
   ⟨(some 36), .app false 1 16 (.t 30) (.t 35), none, false, []⟩,
   ⟨(some 37), .faddr 2 (.t 6), none, false, []⟩,
   ⟨none, .store 1 (.t 37) (.t 36), none, false, []⟩] (some [[], [0], [], [], [2, 3], [2, 3, 4], [2, 3, 4, 5], [0, 1, 2, 3, 4, 5, 6], [0, 1, 2, 3, 4, 5, 6, 7], [0, 1, 2, 3, 4, 5, 6, 7, 8]])))
 (.ops [⟨(some 27), .mv (.t 7), none, false, []⟩,
   ⟨(some 28), .bin .sc .add (.t 27) (.c (.int .i64 1)), none, false, []⟩,
   ⟨(some 7), .mv (.t 28), none, false, []⟩] none))))))
 (.seq (.ops [⟨(some 39), .load true 4 (.t 6), none, false, []⟩,
   ⟨(some 40), .bslice false 1 [.str [], .int .i64 0, .pl [] 0 .nil, .pl [] 0 .nil] [(0, 4, (.t 39))], none, false, []⟩,
   ⟨(some 41), .bslice false 3 [.str [], .str [], .str []] [(0, 1, (.c (.str [65]))), (1, 1, (.c (.str [66]))), (2, 1, (.c (.str [67])))], none, false, []⟩,
   ⟨(some 42), .mv (.t 1), none, false, []⟩,
   ⟨(some 43), .bin .sc .rem (.t 42) (.c (.int .u8 3)), none, false, []⟩,
   ⟨(some 44), .iaddr none 1 (.t 41) (.t 43), none, false, []⟩,
   ⟨(some 45), .load false 1 (.t 44), none, false, []⟩,
   ⟨(some 46), .call (.c (.func 27 [] [])) [(.t 40), (.t 45)], none, false, []⟩,
   ⟨(some 38), .mv (.t 46), none, false, []⟩,
   ⟨(some 47), .extract 0 (.t 38), none, false, []⟩,
   ⟨(some 48), .extract 1 (.t 38), none, false, []⟩,
   ⟨(some 8), .mv (.t 47), none, false, []⟩,
   ⟨(some 9), .mv (.t 48), none, false, []⟩] (some [[], [0], [], [], [3], [2, 3, 4], [2, 3, 4, 5], [0, 1, 2, 3, 4, 5, 6], [0, 1, 2, 3, 4, 5, 6, 7], [0, 1, 2, 3, 4, 5, 6, 7, 8], [0, 1, 2, 3, 4, 5, 6, 7, 8], [0, 1, 2, 3, 4, 5, 6, 7, 8, 9], [0, 1, 2, 3, 4, 5, 6, 7, 8, 9, 10, 11]]))
 (.seq (.ops [⟨(some 50), .load true 4 (.t 6), none, false, []⟩,
   ⟨(some 51), .bslice false 1 [.str [], .int .i64 0, .pl [] 0 .nil, .pl [] 0 .nil] [(0, 4, (.t 50))], none, false, []⟩,
   ⟨(some 52), .mv (.t 1), none, false, []⟩,
   ⟨(some 53), .cint .i64 (.t 52), none, false, []⟩,
   ⟨(some 54), .bin .sc .rem (.t 53) (.c (.int .i64 2)), none, false, []⟩,
   ⟨(some 55), .call (.c (.func 28 [] [])) [(.t 51), (.c (.int .i64 0)), (.t 54)], none, false, []⟩,
   ⟨(some 49), .mv (.t 55), none, false, []⟩,
   ⟨(some 56), .extract 0 (.t 49), none, false, []⟩,
   ⟨(some 57), .extract 1 (.t 49), none, false, []⟩,
   ⟨(some 11), .alloc true [.int .i64 0, .int .i64 0, .str [], .pl [] 0 .nil], none, false, []⟩,
   ⟨(some 10), .mv (.t 56), none, false, []⟩,
   ⟨none, .store 4 (.t 11) (.t 57), none, false, []⟩] none)
 (.seq (.ops [⟨(some 59), .load true 4 (.t 6), none, false, []⟩,
   ⟨(some 60), .bslice false 1 [.str [], .int .i64 0, .pl [] 0 .nil, .pl [] 0 .nil] [(0, 4, (.t 59))], none, false, []⟩,
   ⟨(some 61), .call (.c (.func 28 [] [])) [(.t 60), (.c (.int .i64 1)), (.c (.int .i64 0))], none, false, []⟩,
   ⟨(some 58), .mv (.t 61), none, false, []⟩,
   ⟨(some 62), .extract 0 (.t 58), none, false, []⟩,
   ⟨(some 63), .extract 1 (.t 58), none, false, []⟩,
   ⟨(some 13), .alloc true [.int .i64 0, .int .i64 0, .str [], .pl [] 0 .nil], none, false, []⟩,
   ⟨(some 12), .mv (.t 62), none, false, []⟩,
   ⟨none, .store 4 (.t 13) (.t 63), none, false, []⟩] none)
 (.seq (.seq (.ops [⟨(some 64), .mv (.t 1), none, false, []⟩,
   ⟨(some 65), .bin .sc .rem (.t 64) (.c (.int .u8 3)), none, false, []⟩,
   ⟨(some 66), .bin .sc .eql (.t 65) (.c (.int .u8 2)), none, false, []⟩,
   ⟨(some 67), .mv (.t 66), none, false, []⟩,
   ⟨(some 68), .mv (.t 8), (some (67, true)), false, []⟩,
   ⟨(some 69), .bin .sc .neq (.t 68) (.c (.int .i64 (-1))), (some (67, true)), false, []⟩,
   ⟨(some 70), .mv (.t 69), (some (67, true)), false, []⟩,
   ⟨(some 71), .mv (.t 9), (some (70, false)), false, []⟩,
   ⟨(some 72), .bin .sc .neq (.t 71) (.c (.int .i64 (-1))), (some (70, false)), false, []⟩,
   ⟨(some 73), .pick (.t 70) (.c (.bool true)) (.t 72), (some (67, true)), false, []⟩,
   ⟨(some 74), .pick (.t 67) (.t 73) (.c (.bool false)), none, false, []⟩,
   ⟨(some 75), .mv (.t 74), none, false, []⟩,
   ⟨(some 76), .mv (.t 1), (some (75, false)), false, []⟩,
   ⟨(some 77), .bin .sc .rem (.t 76) (.c (.int .u8 3)), (some (75, false)), false, []⟩,
   ⟨(some 78), .bin .sc .lss (.t 77) (.c (.int .u8 2)), (some (75, false)), false, []⟩,
   ⟨(some 79), .mv (.t 78), (some (75, false)), false, []⟩,
   ⟨(some 80), .mv (.t 8), (some (79, true)), false, []⟩,
   ⟨(some 81), .bin .sc .neq (.t 80) (.c (.int .i64 0)), (some (79, true)), false, []⟩,
   ⟨(some 82), .mv (.t 81), (some (79, true)), false, []⟩,
   ⟨(some 83), .mv (.t 9), (some (82, false)), false, []⟩,
   ⟨(some 84), .mv (.t 1), (some (82, false)), false, []⟩,
   ⟨(some 85), .bin .sc .rem (.t 84) (.c (.int .u8 3)), (some (82, false)), false, []⟩,
   ⟨(some 86), .cint .i64 (.t 85), (some (82, false)), false, []⟩,
   ⟨(some 87), .bin .sc .neq (.t 83) (.t 86), (some (82, false)), false, []⟩,
   ⟨(some 88), .pick (.t 82) (.c (.bool true)) (.t 87), (some (79, true)), false, []⟩,
   ⟨(some 89), .pick (.t 79) (.t 88) (.c (.bool false)), (some (75, false)), false, []⟩,
   ⟨(some 90), .pick (.t 75) (.c (.bool true)) (.t 89), none, false, []⟩] none)
 (.cond (.t 90) (.seq (.ops [⟨(some 4), .mv (.c (.bool false)), none, false, []⟩] none)
 .ret) .skip))
 (.seq (.seq (.ops [⟨(some 91), .faddr 0 (.t 11), none, false, []⟩,
   ⟨(some 92), .load false 1 (.t 91), none, false, []⟩,
   ⟨(some 93), .bin .sc .neq (.t 92) (.c (.int .i64 2)), none, false, []⟩,
   ⟨(some 94), .mv (.t 93), none, false, []⟩,
   ⟨(some 95), .faddr 2 (.t 11), (some (94, false)), false, []⟩,
   ⟨(some 96), .load false 1 (.t 95), (some (94, false)), false, []⟩,
   ⟨(some 97), .bin .sc .neq (.t 96) (.c (.str [68])), (some (94, false)), false, []⟩,
   ⟨(some 98), .pick (.t 94) (.c (.bool true)) (.t 97), none, false, []⟩,
   ⟨(some 99), .mv (.t 98), none, false, []⟩,
   ⟨(some 100), .faddr 3 (.t 11), (some (99, false)), false, []⟩,
   ⟨(some 101), .load false 1 (.t 100), (some (99, false)), false, []⟩,
   ⟨(some 102), .len 1 (.t 101), (some (99, false)), false, []⟩,
   ⟨(some 103), .mv (.t 5), (some (99, false)), false, []⟩,
   ⟨(some 104), .bin .sc .neq (.t 102) (.t 103), (some (99, false)), false, []⟩,
   ⟨(some 105), .pick (.t 99) (.c (.bool true)) (.t 104), none, false, []⟩,
   ⟨(some 106), .mv (.t 105), none, false, []⟩,
   ⟨(some 107), .mv (.t 10), (some (106, false)), false, []⟩,
   ⟨(some 108), .len 1 (.t 107), (some (106, false)), false, []⟩,
   ⟨(some 109), .mv (.t 1), (some (106, false)), false, []⟩,
   ⟨(some 110), .cint .i64 (.t 109), (some (106, false)), false, []⟩,
   ⟨(some 111), .bin .sc .rem (.t 110) (.c (.int .i64 2)), (some (106, false)), false, []⟩,
   ⟨(some 112), .bin .sc .neq (.t 108) (.t 111), (some (106, false)), false, []⟩,
   ⟨(some 113), .pick (.t 106) (.c (.bool true)) (.t 112), none, false, []⟩,
   ⟨(some 114), .mv (.t 113), none, false, []⟩,
   ⟨(some 115), .mv (.t 12), (some (114, false)), false, []⟩,
   ⟨(some 116), .len 1 (.t 115), (some (114, false)), false, []⟩,
   ⟨(some 117), .bin .sc .neq (.t 116) (.c (.int .i64 0)), (some (114, false)), false, []⟩,
   ⟨(some 118), .pick (.t 114) (.c (.bool true)) (.t 117), none, false, []⟩,
   ⟨(some 119), .mv (.t 118), none, false, []⟩,
   ⟨(some 120), .faddr 0 (.t 13), (some (119, false)), false, []⟩,
   ⟨(some 121), .load false 1 (.t 120), (some (119, false)), false, []⟩,
   ⟨(some 122), .bin .sc .neq (.t 121) (.c (.int .i64 0)), (some (119, false)), false, []⟩,
   ⟨(some 123), .pick (.t 119) (.c (.bool true)) (.t 122), none, false, []⟩] none)
 (.cond (.t 123) (.seq (.ops [⟨(some 4), .mv (.c (.bool false)), none, false, []⟩] none)
 .ret) .skip))
 (.seq (.seq (.ops [⟨(some 14), .mv (.c (.int .i64 0)), none, false, []⟩] none)
 (.block 2 (.loop (.seq (.seq (.ops [⟨(some 124), .mv (.t 14), none, false, []⟩,
   ⟨(some 125), .mv (.t 5), none, false, []⟩,
   ⟨(some 126), .bin .sc .lss (.t 124) (.t 125), none, false, []⟩] none)
 (.cond (.t 126) .skip (.exit 2)))
 (.seq (.block 3 (.seq (.ops [⟨(some 129), .faddr 3 (.t 11), none, false, []⟩,
   ⟨(some 130), .load false 1 (.t 129), none, false, []⟩,
   ⟨(some 131), .mv (.t 14), none, false, []⟩,
   ⟨(some 132), .iaddr none 4 (.t 130) (.t 131), none, false, []⟩,
   ⟨(some 133), .faddr 0 (.t 132), none, false, []⟩,
   ⟨(some 134), .load false 1 (.t 133), none, false, []⟩,
   ⟨(some 135), .bin .sc .neq (.t 134) (.c (.int .i64 1)), none, false, []⟩,
   ⟨(some 136), .mv (.t 135), none, false, []⟩,
   ⟨(some 137), .faddr 3 (.t 11), (some (136, false)), false, []⟩,
   ⟨(some 138), .load false 1 (.t 137), (some (136, false)), false, []⟩,
   ⟨(some 139), .mv (.t 14), (some (136, false)), false, []⟩,
   ⟨(some 140), .iaddr none 4 (.t 138) (.t 139), (some (136, false)), false, []⟩,
   ⟨(some 141), .faddr 1 (.t 140), (some (136, false)), false, []⟩,
   ⟨(some 142), .load false 1 (.t 141), (some (136, false)), false, []⟩,
   ⟨(some 143), .mv (.t 14), (some (136, false)), false, []⟩,
   ⟨(some 144), .bin .sc .neq (.t 142) (.t 143), (some (136, false)), false, []⟩,
   ⟨(some 145), .pick (.t 136) (.c (.bool true)) (.t 144), none, false, []⟩] none)
 (.cond (.t 145) (.seq (.ops [⟨(some 4), .mv (.c (.bool false)), none, false, []⟩] none)
 .ret) .skip)))
 (.ops [⟨(some 127), .mv (.t 14), none, false, []⟩,
   ⟨(some 128), .bin .sc .add (.t 127) (.c (.int .i64 1)), none, false, []⟩,
   ⟨(some 14), .mv (.t 128), none, false, []⟩] none))))))
 (.seq (.ops [⟨(some 146), .call (.c (.func 25 [] [])) [], none, false, []⟩,
   ⟨(some 4), .mv (.t 146), none, false, []⟩] none)
 .ret))))))))))) }
/- data.Check -/
def f23 : AFunc :=
 { np := 1, ntmps := 61, results := [.tmp 2, .tmp 3], frz := false, body :=
 (.seq (.ops [⟨(some 1), .box false (.t 0), none, false, []⟩,
   ⟨(some 2), .mv (.c (.int .i64 0)), none, false, []⟩,
   ⟨(some 3), .mv (.c (.int .i64 0)), none, false, []⟩] none)
 (.seq (.ops [⟨(some 9), .mkmap, none, false, []⟩,
   ⟨(some 10), .build [.str [], .bool false] [(0, 1, (.c (.str [73, 110, 116])))], none, false, []⟩,
   ⟨none, .ins (.flat [.s, .b]) (.t 9) (.t 10) (.c (.bool true)), none, false, []⟩,
   ⟨(some 11), .build [.str [], .bool false] [(0, 1, (.c (.str [66, 111, 111, 108])))], none, false, []⟩,
   ⟨none, .ins (.flat [.s, .b]) (.t 9) (.t 11) (.c (.bool true)), none, false, []⟩,
   ⟨(some 12), .mv (.t 9), none, false, []⟩,
   ⟨(some 4), .mv (.t 12), none, false, []⟩] (some [[], [], [0, 1], [], [0, 3], [0, 1, 2, 3, 4], [0, 1, 2, 3, 4, 5]]))
 (.seq (.seq (.ops [⟨(some 13), .load false 1 (.t 1), none, false, []⟩,
   ⟨(some 14), .len 1 (.t 13), none, false, []⟩,
   ⟨(some 15), .mv (.c (.int .i64 0)), none, false, []⟩] none)
 (.block 0 (.loop (.seq (.ops [⟨(some 16), .bin .sc .lss (.t 15) (.t 14), none, false, []⟩] none)
 (.seq (.cond (.t 16) .skip (.exit 0))
 (.seq (.block 1 (.seq (.ops [⟨(some 17), .iaddr none 4 (.t 13) (.t 15), none, false, []⟩,
   ⟨(some 18), .load true 4 (.t 17), none, false, []⟩,
   ⟨(some 6), .alloc false [.str [], .int .i64 0, .pl [] 0 .nil, .pl [] 0 .nil], none, false, []⟩,
   ⟨none, .store 4 (.t 6) (.t 18), none, false, []⟩] none)
 (.seq (.seq (.ops [⟨(some 19), .mv (.t 4), none, false, []⟩,
   ⟨(some 20), .faddr 0 (.t 6), none, false, []⟩,
   ⟨(some 21), .load false 1 (.t 20), none, false, []⟩,
   ⟨(some 22), .build [.str [], .bool false] [(0, 1, (.t 21))], none, false, []⟩,
   ⟨(some 23), .lookup (.flat [.s, .b]) (.bool false) false (.t 19) (.t 22), none, false, []⟩,
   ⟨(some 24), .mv (.t 23), none, false, []⟩,
   ⟨(some 25), .faddr 2 (.t 6), (some (24, false)), false, []⟩,
   ⟨(some 26), .load false 1 (.t 25), (some (24, false)), false, []⟩,
   ⟨(some 27), .call (.c (.func 51 [] [])) [(.t 26)], (some (24, false)), false, []⟩,
   ⟨(some 28), .pick (.t 24) (.c (.bool true)) (.t 27), none, false, []⟩] none)
 (.cond (.t 28) (.seq (.ops [⟨(some 29), .faddr 1 (.t 6), none, false, []⟩,
   ⟨(some 30), .load false 1 (.t 29), none, false, []⟩,
   ⟨(some 2), .mv (.c (.int .i64 6)), none, false, []⟩,
   ⟨(some 3), .mv (.t 30), none, false, []⟩] (some [[], [0], [], [0, 1, 2]]))
 .ret) .skip))
 (.seq (.ops [⟨(some 31), .mv (.t 4), none, false, []⟩,
   ⟨(some 32), .faddr 0 (.t 6), none, false, []⟩,
   ⟨(some 33), .load false 1 (.t 32), none, false, []⟩,
   ⟨(some 34), .build [.str [], .bool false] [(0, 1, (.t 33))], none, false, []⟩,
   ⟨none, .mupd (.flat [.s, .b]) (.t 31) (.t 34) (.c (.bool true)), none, false, []⟩] none)
 (.seq (.ops [⟨(some 35), .faddr 3 (.t 6), none, false, []⟩,
   ⟨(some 36), .load false 1 (.t 35), none, false, []⟩,
   ⟨(some 37), .len 1 (.t 36), none, false, []⟩,
   ⟨(some 38), .mv (.c (.int .i64 0)), none, false, []⟩] none)
 (.block 2 (.loop (.seq (.ops [⟨(some 39), .bin .sc .lss (.t 38) (.t 37), none, false, []⟩] none)
 (.seq (.cond (.t 39) .skip (.exit 2))
 (.seq (.block 3 (.seq (.ops [⟨(some 40), .iaddr none 3 (.t 36) (.t 38), none, false, []⟩,
   ⟨(some 41), .load true 3 (.t 40), none, false, []⟩,
   ⟨(some 8), .alloc true [.str [], .int .i64 0, .pl [] 0 .nil], none, false, []⟩,
   ⟨none, .store 3 (.t 8) (.t 41), none, false, []⟩] none)
 (.seq (.seq (.ops [⟨(some 42), .mv (.t 4), none, false, []⟩,
   ⟨(some 43), .faddr 0 (.t 8), none, false, []⟩,
   ⟨(some 44), .load false 1 (.t 43), none, false, []⟩,
   ⟨(some 45), .build [.str [], .bool false] [(0, 1, (.t 44)), (1, 1, (.c (.bool true)))], none, false, []⟩,
   ⟨(some 46), .lookup (.flat [.s, .b]) (.bool false) false (.t 42) (.t 45), none, false, []⟩,
   ⟨(some 47), .mv (.t 46), none, false, []⟩,
   ⟨(some 48), .faddr 2 (.t 8), (some (47, false)), false, []⟩,
   ⟨(some 49), .load false 1 (.t 48), (some (47, false)), false, []⟩,
   ⟨(some 50), .mkfun 53 [] [(.t 1), (.t 6)], (some (47, false)), false, []⟩,
   ⟨(some 51), .call (.c (.func 52 [] [])) [(.t 49), (.t 50)], (some (47, false)), false, []⟩,
   ⟨(some 52), .pick (.t 47) (.c (.bool true)) (.t 51), none, false, []⟩] none)
 (.cond (.t 52) (.seq (.ops [⟨(some 53), .faddr 1 (.t 8), none, false, []⟩,
   ⟨(some 54), .load false 1 (.t 53), none, false, []⟩,
   ⟨(some 2), .mv (.c (.int .i64 6)), none, false, []⟩,
   ⟨(some 3), .mv (.t 54), none, false, []⟩] (some [[], [0], [], [0, 1, 2]]))
 .ret) .skip))
 (.ops [⟨(some 55), .mv (.t 4), none, false, []⟩,
   ⟨(some 56), .faddr 0 (.t 8), none, false, []⟩,
   ⟨(some 57), .load false 1 (.t 56), none, false, []⟩,
   ⟨(some 58), .build [.str [], .bool false] [(0, 1, (.t 57)), (1, 1, (.c (.bool true)))], none, false, []⟩,
   ⟨none, .mupd (.flat [.s, .b]) (.t 55) (.t 58) (.c (.bool true)), none, false, []⟩] none))))
 (.ops [⟨(some 59), .bin .sc .add (.t 38) (.c (.int .i64 1)), none, false, []⟩,
   ⟨(some 38), .mv (.t 59), none, false, []⟩] none)))))))))))
 (.ops [⟨(some 60), .bin .sc .add (.t 15) (.c (.int .i64 1)), none, false, []⟩,
   ⟨(some 15), .mv (.t 60), none, false, []⟩] none)))))))
 (.seq (.ops [⟨(some 2), .mv (.c (.int .i64 0)), none, false, []⟩,
   ⟨(some 3), .mv (.c (.int .i64 0)), none, false, []⟩] none)
 .ret)))) }
/- warplaw1.Num -/
def f24 : AFunc :=
 { np := 1, ntmps := 4, results := [.tmp 2], frz := false, body :=
 (.seq (.ops [⟨(some 2), .mv (.c (.int .i64 0)), none, false, []⟩] none)
 (.seq (.ops [⟨(some 3), .mv (.t 0), none, false, []⟩,
   ⟨(some 2), .mv (.t 3), none, false, []⟩] none)
 .ret)) }
/- warplaw12.awake -/
def f25 : AFunc :=
 { np := 0, ntmps := 27, results := [.tmp 0], frz := false, body :=
 (.seq (.ops [⟨(some 0), .mv (.c (.bool false)), none, false, []⟩] none)
 (.seq (.ops [⟨(some 6), .call (.c (.func 23 [] [])) [(.c (.pl [] 0 .nil))], none, false, []⟩,
   ⟨(some 5), .mv (.t 6), none, false, []⟩,
   ⟨(some 7), .extract 0 (.t 5), none, false, []⟩,
   ⟨(some 8), .extract 1 (.t 5), none, false, []⟩,
   ⟨(some 1), .mv (.t 7), none, false, []⟩,
   ⟨(some 2), .mv (.t 8), none, false, []⟩] none)
 (.seq (.ops [⟨(some 10), .build [.str [], .int .i64 0, .pl [] 0 .nil, .pl [] 0 .nil] [(0, 1, (.c (.str [73, 110, 116]))), (1, 1, (.c (.int .i64 5)))], none, false, []⟩,
   ⟨(some 11), .bslice false 1 [.str [], .int .i64 0, .pl [] 0 .nil, .pl [] 0 .nil] [(0, 4, (.t 10))], none, false, []⟩,
   ⟨(some 12), .call (.c (.func 23 [] [])) [(.t 11)], none, false, []⟩,
   ⟨(some 9), .mv (.t 12), none, false, []⟩,
   ⟨(some 13), .extract 0 (.t 9), none, false, []⟩,
   ⟨(some 14), .extract 1 (.t 9), none, false, []⟩,
   ⟨(some 3), .mv (.t 13), none, false, []⟩,
   ⟨(some 4), .mv (.t 14), none, false, []⟩] none)
 (.seq (.ops [⟨(some 15), .mv (.t 1), none, false, []⟩,
   ⟨(some 16), .call (.c (.func 24 [] [])) [(.t 15)], none, false, []⟩,
   ⟨(some 17), .bin .sc .eql (.t 16) (.c (.int .i64 0)), none, false, []⟩,
   ⟨(some 18), .mv (.t 17), none, false, []⟩,
   ⟨(some 19), .mv (.t 3), (some (18, true)), false, []⟩,
   ⟨(some 20), .call (.c (.func 24 [] [])) [(.t 19)], (some (18, true)), false, []⟩,
   ⟨(some 21), .bin .sc .eql (.t 20) (.c (.int .i64 6)), (some (18, true)), false, []⟩,
   ⟨(some 22), .pick (.t 18) (.t 21) (.c (.bool false)), none, false, []⟩,
   ⟨(some 23), .mv (.t 22), none, false, []⟩,
   ⟨(some 24), .mv (.t 4), (some (23, true)), false, []⟩,
   ⟨(some 25), .bin .sc .eql (.t 24) (.c (.int .i64 5)), (some (23, true)), false, []⟩,
   ⟨(some 26), .pick (.t 23) (.t 25) (.c (.bool false)), none, false, []⟩,
   ⟨(some 0), .mv (.t 26), none, false, []⟩] none)
 .ret)))) }
/- data.Con -/
def f27 : AFunc :=
 { np := 2, ntmps := 25, results := [.tmp 4, .tmp 5], frz := false, body :=
 (.seq (.ops [⟨(some 3), .box false (.t 1), none, false, []⟩,
   ⟨(some 4), .mv (.c (.int .i64 0)), none, false, []⟩,
   ⟨(some 5), .mv (.c (.int .i64 0)), none, false, []⟩] none)
 (.seq (.seq (.ops [⟨(some 9), .mv (.t 0), none, false, []⟩,
   ⟨(some 10), .len 1 (.t 9), none, false, []⟩,
   ⟨(some 11), .mv (.c (.int .i64 0)), none, false, []⟩] none)
 (.block 0 (.loop (.seq (.ops [⟨(some 12), .bin .sc .lss (.t 11) (.t 10), none, false, []⟩] none)
 (.seq (.cond (.t 12) .skip (.exit 0))
 (.seq (.block 1 (.seq (.ops [⟨(some 13), .mv (.t 11), none, false, []⟩,
   ⟨(some 14), .iaddr none 4 (.t 9) (.t 11), none, false, []⟩,
   ⟨(some 15), .load true 4 (.t 14), none, false, []⟩,
   ⟨(some 7), .alloc true [.str [], .int .i64 0, .pl [] 0 .nil, .pl [] 0 .nil], none, false, []⟩,
   ⟨(some 6), .mv (.t 13), none, false, []⟩,
   ⟨none, .store 4 (.t 7) (.t 15), none, false, []⟩] none)
 (.seq (.ops [⟨(some 16), .faddr 3 (.t 7), none, false, []⟩,
   ⟨(some 17), .load false 1 (.t 16), none, false, []⟩,
   ⟨(some 18), .mkfun 56 [] [(.t 3)], none, false, []⟩,
   ⟨(some 19), .call (.c (.func 55 [] [])) [(.t 17), (.t 18)], none, false, []⟩,
   ⟨(some 8), .mv (.t 19), none, false, []⟩] none)
 (.seq (.ops [⟨(some 20), .mv (.t 8), none, false, []⟩,
   ⟨(some 21), .bin .sc .geq (.t 20) (.c (.int .i64 0)), none, false, []⟩] none)
 (.cond (.t 21) (.seq (.ops [⟨(some 22), .mv (.t 6), none, false, []⟩,
   ⟨(some 23), .mv (.t 8), none, false, []⟩,
   ⟨(some 4), .mv (.t 22), none, false, []⟩,
   ⟨(some 5), .mv (.t 23), none, false, []⟩] none)
 .ret) .skip)))))
 (.ops [⟨(some 24), .bin .sc .add (.t 11) (.c (.int .i64 1)), none, false, []⟩,
   ⟨(some 11), .mv (.t 24), none, false, []⟩] none)))))))
 (.seq (.ops [⟨(some 4), .mv (.c (.int .i64 (-1))), none, false, []⟩,
   ⟨(some 5), .mv (.c (.int .i64 (-1))), none, false, []⟩] none)
 .ret))) }
/- data.Type -/
def f28 : AFunc :=
 { np := 3, ntmps := 79, results := [.tmp 6, .cell 7 4 true], frz := false, body :=
 (.seq (.ops [⟨(some 6), .mv (.c (.pl [] 0 .nil)), none, false, []⟩,
   ⟨(some 7), .alloc true [.int .i64 0, .int .i64 0, .str [], .pl [] 0 .nil], none, false, []⟩] none)
 (.seq (.seq (.ops [⟨(some 11), .mv (.t 1), none, false, []⟩,
   ⟨(some 12), .bin .sc .lss (.t 11) (.c (.int .i64 0)), none, false, []⟩,
   ⟨(some 13), .mv (.t 12), none, false, []⟩,
   ⟨(some 14), .mv (.t 1), (some (13, false)), false, []⟩,
   ⟨(some 15), .mv (.t 0), (some (13, false)), false, []⟩,
   ⟨(some 16), .len 1 (.t 15), (some (13, false)), false, []⟩,
   ⟨(some 17), .bin .sc .geq (.t 14) (.t 16), (some (13, false)), false, []⟩,
   ⟨(some 18), .pick (.t 13) (.c (.bool true)) (.t 17), none, false, []⟩,
   ⟨(some 19), .mv (.t 18), none, false, []⟩,
   ⟨(some 20), .mv (.t 2), (some (19, false)), false, []⟩,
   ⟨(some 21), .bin .sc .lss (.t 20) (.c (.int .i64 0)), (some (19, false)), false, []⟩,
   ⟨(some 22), .pick (.t 19) (.c (.bool true)) (.t 21), none, false, []⟩,
   ⟨(some 23), .mv (.t 22), none, false, []⟩,
   ⟨(some 24), .mv (.t 2), (some (23, false)), false, []⟩,
   ⟨(some 25), .mv (.t 0), (some (23, false)), false, []⟩,
   ⟨(some 26), .mv (.t 1), (some (23, false)), false, []⟩,
   ⟨(some 27), .iaddr none 4 (.t 25) (.t 26), (some (23, false)), false, []⟩,
   ⟨(some 28), .faddr 3 (.t 27), (some (23, false)), false, []⟩,
   ⟨(some 29), .load false 1 (.t 28), (some (23, false)), false, []⟩,
   ⟨(some 30), .len 1 (.t 29), (some (23, false)), false, []⟩,
   ⟨(some 31), .bin .sc .geq (.t 24) (.t 30), (some (23, false)), false, []⟩,
   ⟨(some 32), .pick (.t 23) (.c (.bool true)) (.t 31), none, false, []⟩] none)
 (.cond (.t 32) (.seq (.ops [⟨(some 33), .load true 4 (.t 7), none, false, []⟩,
   ⟨(some 6), .mv (.c (.pl [] 0 .nil)), none, false, []⟩,
   ⟨none, .store 4 (.t 7) (.t 33), none, false, []⟩] (some [[], [], [0, 1]]))
 .ret) .skip))
 (.seq (.seq (.ops [⟨(some 34), .mv (.t 0), none, false, []⟩,
   ⟨(some 35), .mv (.t 1), none, false, []⟩,
   ⟨(some 36), .iaddr none 4 (.t 34) (.t 35), none, false, []⟩,
   ⟨(some 37), .faddr 3 (.t 36), none, false, []⟩,
   ⟨(some 38), .load false 1 (.t 37), none, false, []⟩,
   ⟨(some 39), .mv (.t 2), none, false, []⟩,
   ⟨(some 40), .iaddr none 3 (.t 38) (.t 39), none, false, []⟩,
   ⟨(some 41), .faddr 2 (.t 40), none, false, []⟩,
   ⟨(some 42), .load false 1 (.t 41), none, false, []⟩,
   ⟨(some 43), .len 1 (.t 42), none, false, []⟩,
   ⟨(some 44), .mv (.c (.int .i64 0)), none, false, []⟩] none)
 (.block 0 (.loop (.seq (.ops [⟨(some 45), .bin .sc .lss (.t 44) (.t 43), none, false, []⟩] none)
 (.seq (.cond (.t 45) .skip (.exit 0))
 (.seq (.block 1 (.seq (.ops [⟨(some 46), .iaddr none 4 (.t 42) (.t 44), none, false, []⟩,
   ⟨(some 47), .load true 4 (.t 46), none, false, []⟩,
   ⟨(some 9), .alloc true [.int .i64 0, .int .i64 0, .str [], .pl [] 0 .nil], none, false, []⟩,
   ⟨none, .store 4 (.t 9) (.t 47), none, false, []⟩] none)
 (.ops [⟨(some 48), .mv (.t 6), none, false, []⟩,
   ⟨(some 49), .load true 4 (.t 9), none, false, []⟩,
   ⟨(some 50), .call (.c (.func 57 [] [])) [(.t 49)], none, false, []⟩,
   ⟨(some 51), .bslice false 1 [.int .i64 0, .int .i64 0, .str [], .pl [] 0 .nil] [(0, 4, (.t 50))], none, false, []⟩,
   ⟨(some 52), .app false 4 56 (.t 48) (.t 51), none, false, []⟩,
   ⟨(some 6), .mv (.t 52), none, false, []⟩] none)))
 (.ops [⟨(some 53), .bin .sc .add (.t 44) (.c (.int .i64 1)), none, false, []⟩,
   ⟨(some 44), .mv (.t 53), none, false, []⟩] none)))))))
 (.seq (.ops [⟨(some 54), .mv (.t 0), none, false, []⟩,
   ⟨(some 55), .mv (.t 1), none, false, []⟩,
   ⟨(some 56), .iaddr none 4 (.t 54) (.t 55), none, false, []⟩,
   ⟨(some 57), .faddr 0 (.t 56), none, false, []⟩,
   ⟨(some 58), .load false 1 (.t 57), none, false, []⟩,
   ⟨(some 59), .build [.int .i64 0, .int .i64 0, .str [], .pl [] 0 .nil] [(0, 1, (.c (.int .i64 2))), (2, 1, (.t 58))], none, false, []⟩,
   ⟨none, .store 4 (.t 7) (.t 59), none, false, []⟩] none)
 (.seq (.seq (.ops [⟨(some 60), .mv (.t 0), none, false, []⟩,
   ⟨(some 61), .mv (.t 1), none, false, []⟩,
   ⟨(some 62), .iaddr none 4 (.t 60) (.t 61), none, false, []⟩,
   ⟨(some 63), .faddr 2 (.t 62), none, false, []⟩,
   ⟨(some 64), .load false 1 (.t 63), none, false, []⟩,
   ⟨(some 65), .len 1 (.t 64), none, false, []⟩,
   ⟨(some 66), .mv (.c (.int .i64 0)), none, false, []⟩] none)
 (.block 2 (.loop (.seq (.ops [⟨(some 67), .bin .sc .lss (.t 66) (.t 65), none, false, []⟩] none)
 (.seq (.cond (.t 67) .skip (.exit 2))
 (.seq (.block 3 (.seq (.ops [⟨(some 68), .mv (.t 66), none, false, []⟩,
   ⟨(some 10), .mv (.t 68), none, false, []⟩] none)
 (.ops [⟨(some 69), .faddr 3 (.t 7), none, false, []⟩,
   ⟨(some 70), .load false 1 (.t 69), none, false, []⟩,
   ⟨(some 71), .mv (.t 10), none, false, []⟩,
   ⟨(some 72), .build [.int .i64 0, .int .i64 0, .str [], .pl [] 0 .nil] [(0, 1, (.c (.int .i64 1))), (1, 1, (.t 71))], none, false, []⟩,
   ⟨(some 73), .bslice false 1 [.int .i64 0, .int .i64 0, .str [], .pl [] 0 .nil] [(0, 4, (.t 72))], none, false, []⟩,
   ⟨(some 74), .app false 4 56 (.t 70) (.t 73), none, false, []⟩,
   ⟨(some 75), .faddr 3 (.t 7), none, false, []⟩,
   ⟨none, .store 1 (.t 75) (.t 74), none, false, []⟩] none)))
 (.ops [⟨(some 76), .bin .sc .add (.t 66) (.c (.int .i64 1)), none, false, []⟩,
   ⟨(some 66), .mv (.t 76), none, false, []⟩] none)))))))
 (.seq (.ops [⟨(some 77), .mv (.t 6), none, false, []⟩,
   ⟨(some 78), .load true 4 (.t 7), none, false, []⟩,
   ⟨(some 6), .mv (.t 77), none, false, []⟩,
   ⟨none, .store 4 (.t 7) (.t 78), none, false, []⟩] (some [[], [], [0], [0, 1, 2]]))
 .ret)))))) }
/- data.twice -/
def f51 : AFunc :=
 { np := 1, ntmps := 15, results := [.tmp 2], frz := false, body :=
 (.seq (.ops [⟨(some 2), .mv (.c (.bool false)), none, false, []⟩] none)
 (.seq (.ops [⟨(some 4), .mv (.t 0), none, false, []⟩,
   ⟨(some 5), .call (.c (.func 84 [] [])) [(.t 4)], none, false, []⟩,
   ⟨(some 0), .mv (.t 5), none, false, []⟩] none)
 (.seq (.ops [⟨(some 6), .mv (.t 0), none, false, []⟩,
   ⟨(some 7), .call (.c (.func 85 [] [])) [(.t 6)], none, false, []⟩] none)
 (.seq (.ops [⟨(some 8), .mv (.t 0), none, false, []⟩,
   ⟨(some 9), .len 1 (.t 8), none, false, []⟩,
   ⟨(some 3), .mv (.t 9), none, false, []⟩] none)
 (.seq (.ops [⟨(some 10), .mv (.t 0), none, false, []⟩,
   ⟨(some 11), .call (.c (.func 86 [] [])) [(.t 10)], none, false, []⟩,
   ⟨(some 12), .len 1 (.t 11), none, false, []⟩,
   ⟨(some 13), .mv (.t 3), none, false, []⟩,
   ⟨(some 14), .bin .sc .lss (.t 12) (.t 13), none, false, []⟩,
   ⟨(some 2), .mv (.t 14), none, false, []⟩] none)
 .ret))))) }
/- slices.ContainsFunc[[]api.Type,api.Type] -/
def f52 : AFunc :=
 { np := 2, ntmps := 9, results := [.tmp 4], frz := false, body :=
 (.seq (.ops [⟨(some 4), .mv (.c (.bool false)), none, false, []⟩] none)
 (.seq (.ops [⟨(some 5), .mv (.t 0), none, false, []⟩,
   ⟨(some 6), .mv (.t 1), none, false, []⟩,
   ⟨(some 7), .call (.c (.func 87 [] [])) [(.t 5), (.t 6)], none, false, []⟩,
   ⟨(some 8), .bin .sc .geq (.t 7) (.c (.int .i64 0)), none, false, []⟩,
   ⟨(some 4), .mv (.t 8), none, false, []⟩] none)
 .ret)) }
/- data.Check$1 -/
def f53 : AFunc :=
 { np := 3, ntmps := 12, results := [.tmp 4], frz := false, body :=
 (.seq (.ops [⟨(some 3), .box true (.t 0), none, false, []⟩,
   ⟨(some 4), .mv (.c (.bool false)), none, false, []⟩] none)
 (.seq (.ops [⟨(some 5), .load false 1 (.t 1), none, false, []⟩,
   ⟨(some 6), .load true 4 (.t 3), none, false, []⟩,
   ⟨(some 7), .faddr 2 (.t 2), none, false, []⟩,
   ⟨(some 8), .load false 1 (.t 7), none, false, []⟩,
   ⟨(some 9), .len 1 (.t 8), none, false, []⟩,
   ⟨(some 10), .call (.c (.func 54 [] [])) [(.t 5), (.t 6), (.t 9)], none, false, []⟩,
   ⟨(some 11), .not (.t 10), none, false, []⟩,
   ⟨(some 4), .mv (.t 11), none, false, []⟩] none)
 .ret)) }
/- data.right -/
def f54 : AFunc :=
 { np := 3, ntmps := 58, results := [.tmp 6], frz := false, body :=
 (.seq (.ops [⟨(some 3), .box false (.t 0), none, false, []⟩,
   ⟨(some 4), .box true (.t 1), none, false, []⟩,
   ⟨(some 5), .box false (.t 2), none, false, []⟩,
   ⟨(some 6), .mv (.c (.bool false)), none, false, []⟩] none)
 (.seq (.seq (.ops [⟨(some 8), .faddr 3 (.t 4), none, false, []⟩,
   ⟨(some 9), .load false 1 (.t 8), none, false, []⟩,
   ⟨(some 10), .mkfun 88 [] [(.t 3), (.t 5)], none, false, []⟩,
   ⟨(some 11), .call (.c (.func 52 [] [])) [(.t 9), (.t 10)], none, false, []⟩] none)
 (.cond (.t 11) (.seq (.ops [⟨(some 6), .mv (.c (.bool false)), none, false, []⟩] none)
 .ret) .skip))
 (.seq (.ops [⟨(some 12), .faddr 3 (.t 4), none, false, []⟩,
   ⟨(some 13), .load false 1 (.t 12), none, false, []⟩,
   ⟨(some 14), .len 1 (.t 13), none, false, []⟩,
   ⟨(some 7), .mv (.t 14), none, false, []⟩] none)
 (.seq (.block 0 (.seq (.ops [⟨(some 16), .faddr 0 (.t 4), none, false, []⟩,
   ⟨(some 17), .load false 1 (.t 16), none, false, []⟩,
   ⟨(some 18), .bin .sc .eql (.t 17) (.c (.int .i64 1)), none, false, []⟩,
   ⟨(some 15), .mv (.t 18), none, false, []⟩] none)
 (.cond (.t 15) (.seq (.ops [⟨(some 19), .mv (.t 7), none, false, []⟩,
   ⟨(some 20), .bin .sc .eql (.t 19) (.c (.int .i64 0)), none, false, []⟩,
   ⟨(some 21), .mv (.t 20), none, false, []⟩,
   ⟨(some 22), .faddr 1 (.t 4), (some (21, true)), false, []⟩,
   ⟨(some 23), .load false 1 (.t 22), (some (21, true)), false, []⟩,
   ⟨(some 24), .bin .sc .geq (.t 23) (.c (.int .i64 0)), (some (21, true)), false, []⟩,
   ⟨(some 25), .pick (.t 21) (.t 24) (.c (.bool false)), none, false, []⟩,
   ⟨(some 26), .mv (.t 25), none, false, []⟩,
   ⟨(some 27), .faddr 1 (.t 4), (some (26, true)), false, []⟩,
   ⟨(some 28), .load false 1 (.t 27), (some (26, true)), false, []⟩,
   ⟨(some 29), .load false 1 (.t 5), (some (26, true)), false, []⟩,
   ⟨(some 30), .bin .sc .lss (.t 28) (.t 29), (some (26, true)), false, []⟩,
   ⟨(some 31), .pick (.t 26) (.t 30) (.c (.bool false)), none, false, []⟩,
   ⟨(some 6), .mv (.t 31), none, false, []⟩] none)
 .ret) (.seq (.ops [⟨(some 33), .faddr 0 (.t 4), none, false, []⟩,
   ⟨(some 34), .load false 1 (.t 33), none, false, []⟩,
   ⟨(some 35), .bin .sc .neq (.t 34) (.c (.int .i64 2)), none, false, []⟩,
   ⟨(some 32), .mv (.t 35), none, false, []⟩] none)
 (.cond (.t 32) (.seq (.ops [⟨(some 6), .mv (.c (.bool false)), none, false, []⟩] none)
 .ret) (.seq (.ops [⟨(some 37), .faddr 2 (.t 4), none, false, []⟩,
   ⟨(some 38), .load false 1 (.t 37), none, false, []⟩,
   ⟨(some 39), .bin .sc .eql (.t 38) (.c (.str [45, 62])), none, false, []⟩,
   ⟨(some 36), .mv (.t 39), none, false, []⟩] none)
 (.cond (.t 36) (.seq (.ops [⟨(some 40), .mv (.t 7), none, false, []⟩,
   ⟨(some 41), .bin .sc .eql (.t 40) (.c (.int .i64 2)), none, false, []⟩,
   ⟨(some 6), .mv (.t 41), none, false, []⟩] none)
 .ret) (.seq (.ops [⟨(some 43), .faddr 2 (.t 4), none, false, []⟩,
   ⟨(some 44), .load false 1 (.t 43), none, false, []⟩,
   ⟨(some 45), .bin .sc .eql (.t 44) (.c (.str [44])), none, false, []⟩,
   ⟨(some 42), .mv (.t 45), none, false, []⟩] none)
 (.cond (.t 42) (.seq (.ops [⟨(some 46), .mv (.t 7), none, false, []⟩,
   ⟨(some 47), .bin .sc .geq (.t 46) (.c (.int .i64 2)), none, false, []⟩,
   ⟨(some 48), .mv (.t 47), none, false, []⟩,
   ⟨(some 49), .mv (.t 7), (some (48, true)), false, []⟩,
   ⟨(some 50), .bin .sc .leq (.t 49) (.c (.int .i64 8)), (some (48, true)), false, []⟩,
   ⟨(some 51), .pick (.t 48) (.t 50) (.c (.bool false)), none, false, []⟩,
   ⟨(some 6), .mv (.t 51), none, false, []⟩] none)
 .ret) .skip)))))))))
 (.seq (.ops [⟨(some 52), .mv (.t 7), none, false, []⟩,
   ⟨(some 53), .load false 1 (.t 3), none, false, []⟩,
   ⟨(some 54), .faddr 2 (.t 4), none, false, []⟩,
   ⟨(some 55), .load false 1 (.t 54), none, false, []⟩,
   ⟨(some 56), .call (.c (.func 89 [] [])) [(.t 53), (.t 55)], none, false, []⟩,
   ⟨(some 57), .bin .sc .eql (.t 52) (.t 56), none, false, []⟩,
   ⟨(some 6), .mv (.t 57), none, false, []⟩] none)
 .ret))))) }
/- slices.IndexFunc[[]api.Con,api.Con] -/
def f55 : AFunc :=
 { np := 2, ntmps := 19, results := [.tmp 4], frz := false, body :=
 (.seq (.ops [⟨(some 4), .mv (.c (.int .i64 0)), none, false, []⟩] none)
 (.seq (.seq (.ops [⟨(some 6), .mv (.t 0), none, false, []⟩,
   ⟨(some 7), .len 1 (.t 6), none, false, []⟩,
   ⟨(some 8), .mv (.c (.int .i64 0)), none, false, []⟩] none)
 (.block 0 (.loop (.seq (.ops [⟨(some 9), .bin .sc .lss (.t 8) (.t 7), none, false, []⟩] none)
 (.seq (.cond (.t 9) .skip (.exit 0))
 (.seq (.block 1 (.seq (.ops [⟨(some 10), .mv (.t 8), none, false, []⟩,
   ⟨(some 5), .mv (.t 10), none, false, []⟩] none)
 (.seq (.ops [⟨(some 11), .mv (.t 1), none, false, []⟩,
   ⟨(some 12), .mv (.t 0), none, false, []⟩,
   ⟨(some 13), .mv (.t 5), none, false, []⟩,
   ⟨(some 14), .iaddr none 3 (.t 12) (.t 13), none, false, []⟩,
   ⟨(some 15), .load true 3 (.t 14), none, false, []⟩,
   ⟨(some 16), .call (.t 11) [(.t 15)], none, false, []⟩] none)
 (.cond (.t 16) (.seq (.ops [⟨(some 17), .mv (.t 5), none, false, []⟩,
   ⟨(some 4), .mv (.t 17), none, false, []⟩] none)
 .ret) .skip))))
 (.ops [⟨(some 18), .bin .sc .add (.t 8) (.c (.int .i64 1)), none, false, []⟩,
   ⟨(some 8), .mv (.t 18), none, false, []⟩] none)))))))
 (.seq (.ops [⟨(some 4), .mv (.c (.int .i64 (-1))), none, false, []⟩] none)
 .ret))) }
/- data.Con$1 -/
def f56 : AFunc :=
 { np := 2, ntmps := 8, results := [.tmp 3], frz := false, body :=
 (.seq (.ops [⟨(some 2), .box true (.t 0), none, false, []⟩,
   ⟨(some 3), .mv (.c (.bool false)), none, false, []⟩] none)
 (.seq (.ops [⟨(some 4), .faddr 0 (.t 2), none, false, []⟩,
   ⟨(some 5), .load false 1 (.t 4), none, false, []⟩,
   ⟨(some 6), .load false 1 (.t 1), none, false, []⟩,
   ⟨(some 7), .bin .sc .eql (.t 5) (.t 6), none, false, []⟩,
   ⟨(some 3), .mv (.t 7), none, false, []⟩] none)
 .ret)) }
/- data.copied -/
def f57 : AFunc :=
 { np := 1, ntmps := 25, results := [.cell 2 4 true], frz := true, body :=
 (.seq (.ops [⟨(some 1), .box true (.t 0), none, false, []⟩,
   ⟨(some 2), .alloc true [.int .i64 0, .int .i64 0, .str [], .pl [] 0 .nil], none, false, []⟩] none)
 (.seq (.ops [⟨(some 5), .faddr 3 (.t 1), none, false, []⟩,
   ⟨(some 6), .load false 1 (.t 5), none, false, []⟩,
   ⟨(some 7), .call (.c (.func 90 [] [])) [(.t 6)], none, false, []⟩,
   ⟨(some 8), .faddr 3 (.t 1), none, false, []⟩,
   ⟨none, .store 1 (.t 8) (.t 7), none, false, []⟩] none)
 (.seq (.seq (.ops [⟨(some 9), .faddr 3 (.t 1), none, false, []⟩,
   ⟨(some 10), .load false 1 (.t 9), none, false, []⟩,
   ⟨(some 11), .len 1 (.t 10), none, false, []⟩,
   ⟨(some 12), .mv (.c (.int .i64 0)), none, false, []⟩] none)
 (.block 0 (.loop (.seq (.ops [⟨(some 13), .bin .sc .lss (.t 12) (.t 11), none, false, []⟩] none)
 (.seq (.cond (.t 13) .skip (.exit 0))
 (.seq (.block 1 (.seq (.ops [⟨(some 14), .mv (.t 12), none, false, []⟩,
   ⟨(some 15), .iaddr none 4 (.t 10) (.t 12), none, false, []⟩,
   ⟨(some 16), .load true 4 (.t 15), none, false, []⟩,
   ⟨(some 4), .alloc true [.int .i64 0, .int .i64 0, .str [], .pl [] 0 .nil], none, false, []⟩,
   ⟨(some 3), .mv (.t 14), none, false, []⟩,
   ⟨none, .store 4 (.t 4) (.t 16), none, false, []⟩] none)
 (.ops [⟨(some 17), .faddr 3 (.t 1), none, false, []⟩,
   ⟨(some 18), .load false 1 (.t 17), none, true, []⟩,
   ⟨(some 19), .mv (.t 3), none, false, []⟩,
   ⟨(some 20), .load true 4 (.t 4), none, false, []⟩,
   ⟨(some 21), .call (.c (.func 57 [] [])) [(.t 20)], none, false, []⟩,
   ⟨(some 22), .iaddr none 4 (.t 18) (.t 19), none, false, []⟩,
   ⟨none, .store 4 (.t 22) (.t 21), none, false, []⟩] (some [[], [0], [], [], [3], [0, 1, 2, 3, 4], [0, 1, 2, 3, 4, 5]]))))
 (.ops [⟨(some 23), .bin .sc .add (.t 12) (.c (.int .i64 1)), none, false, []⟩,
   ⟨(some 12), .mv (.t 23), none, false, []⟩] none)))))))
 (.seq (.ops [⟨(some 24), .load true 4 (.t 1), none, false, []⟩,
   ⟨none, .store 4 (.t 2) (.t 24), none, false, []⟩] none)
 .ret)))) }
/- math/bits.Len -/
def f83 : AFunc :=
 { np := 1, ntmps := 8, results := [.tmp 2], frz := false, body :=
 (.seq (.ops [⟨(some 2), .mv (.c (.int .i64 0)), none, false, []⟩] none)
 (.seq (.cond (.c (.bool false)) (.seq (.ops [⟨(some 3), .mv (.t 0), none, false, []⟩,
   ⟨(some 4), .cint .u32 (.t 3), none, false, []⟩,
   ⟨(some 5), .call (.c (.func 107 [] [])) [(.t 4)], none, false, []⟩,
   ⟨(some 2), .mv (.t 5), none, false, []⟩] none)
 .ret) .skip)
 (.seq (.ops [⟨(some 6), .mv (.t 0), none, false, []⟩,
   ⟨(some 7), .call (.c (.func 108 [] [])) [(.t 6)], none, false, []⟩,
   ⟨(some 2), .mv (.t 7), none, false, []⟩] none)
 .ret))) }
/- slices.Clone[[]string,string] -/
def f84 : AFunc :=
 { np := 1, ntmps := 8, results := [.tmp 2], frz := false, body :=
 (.seq (.ops [⟨(some 2), .mv (.c (.pl [] 0 .nil)), none, false, []⟩] none)
 (.seq (.seq (.ops [⟨(some 3), .mv (.t 0), none, false, []⟩,
   ⟨(some 4), .bin .slice .eql (.t 3) (.c (.pl [] 0 .nil)), none, false, []⟩] none)
 (.cond (.t 4) (.seq (.ops [⟨(some 2), .mv (.c (.pl [] 0 .nil)), none, false, []⟩] none)
 .ret) .skip))
 (.seq (.ops [⟨(some 5), .bslice false 0 [] [], none, false, []⟩,
   ⟨(some 6), .mv (.t 0), none, false, []⟩,
   ⟨(some 7), .app true 1 16 (.t 5) (.t 6), none, false, []⟩,
   ⟨(some 2), .mv (.t 7), none, false, []⟩] none)
 .ret))) }
/- slices.Sort[[]string,string] -/
def f85 : AFunc :=
 { np := 1, ntmps := 11, results := [], frz := false, body :=
 (.seq (.ops [⟨(some 3), .mv (.t 0), none, false, []⟩,
   ⟨(some 4), .len 1 (.t 3), none, false, []⟩,
   ⟨(some 2), .mv (.t 4), none, false, []⟩] none)
 (.ops [⟨(some 5), .mv (.t 0), none, false, []⟩,
   ⟨(some 6), .mv (.t 2), none, false, []⟩,
   ⟨(some 7), .mv (.t 2), none, false, []⟩,
   ⟨(some 8), .cint .u64 (.t 7), none, false, []⟩,
   ⟨(some 9), .call (.c (.func 83 [] [])) [(.t 8)], none, false, []⟩,
   ⟨(some 10), .call (.c (.func 109 [] [])) [(.t 5), (.c (.int .i64 0)), (.t 6), (.t 9)], none, false, []⟩] none)) }
/- slices.Compact[[]string,string] -/
def f86 : AFunc :=
 { np := 1, ntmps := 61, results := [.tmp 2], frz := false, body :=
 (.seq (.ops [⟨(some 2), .mv (.c (.pl [] 0 .nil)), none, false, []⟩] none)
 (.seq (.seq (.ops [⟨(some 6), .mv (.t 0), none, false, []⟩,
   ⟨(some 7), .len 1 (.t 6), none, false, []⟩,
   ⟨(some 8), .bin .sc .lss (.t 7) (.c (.int .i64 2)), none, false, []⟩] none)
 (.cond (.t 8) (.seq (.ops [⟨(some 9), .mv (.t 0), none, false, []⟩,
   ⟨(some 2), .mv (.t 9), none, false, []⟩] none)
 .ret) .skip))
 (.seq (.seq (.ops [⟨(some 3), .mv (.c (.int .i64 1)), none, false, []⟩] none)
 (.block 0 (.loop (.seq (.seq (.ops [⟨(some 10), .mv (.t 3), none, false, []⟩,
   ⟨(some 11), .mv (.t 0), none, false, []⟩,
   ⟨(some 12), .len 1 (.t 11), none, false, []⟩,
   ⟨(some 13), .bin .sc .lss (.t 10) (.t 12), none, false, []⟩] none)
 (.cond (.t 13) .skip (.exit 0)))
 (.seq (.block 1 (.seq (.ops [⟨(some 16), .mv (.t 0), none, false, []⟩,
   ⟨(some 17), .mv (.t 3), none, false, []⟩,
   ⟨(some 18), .iaddr none 1 (.t 16) (.t 17), none, false, []⟩,
   ⟨(some 19), .load false 1 (.t 18), none, false, []⟩,
   ⟨(some 20), .mv (.t 0), none, false, []⟩,
   ⟨(some 21), .mv (.t 3), none, false, []⟩,
   ⟨(some 22), .bin .sc .sub (.t 21) (.c (.int .i64 1)), none, false, []⟩,
   ⟨(some 23), .iaddr none 1 (.t 20) (.t 22), none, false, []⟩,
   ⟨(some 24), .load false 1 (.t 23), none, false, []⟩,
   ⟨(some 25), .bin .sc .eql (.t 19) (.t 24), none, false, []⟩] (some [[], [], [0, 1], [0, 1, 2], [], [], [5], [4, 5, 6], [4, 5, 6, 7], [0, 1, 2, 3, 4, 5, 6, 7, 8]]))
 (.cond (.t 25) (.seq (.ops [⟨(some 26), .mv (.t 0), none, false, []⟩,
   ⟨(some 27), .mv (.t 3), none, false, []⟩,
   ⟨(some 28), .sliceL 1 (.t 26) (some (.t 27)) none none, none, false, []⟩,
   ⟨(some 4), .mv (.t 28), none, false, []⟩] none)
 (.seq (.seq (.ops [⟨(some 5), .mv (.c (.int .i64 1)), none, false, []⟩] none)
 (.block 2 (.loop (.seq (.seq (.ops [⟨(some 29), .mv (.t 5), none, false, []⟩,
   ⟨(some 30), .mv (.t 4), none, false, []⟩,
   ⟨(some 31), .len 1 (.t 30), none, false, []⟩,
   ⟨(some 32), .bin .sc .lss (.t 29) (.t 31), none, false, []⟩] none)
 (.cond (.t 32) .skip (.exit 2)))
 (.seq (.block 3 (.seq (.ops [⟨(some 35), .mv (.t 4), none, false, []⟩,
   ⟨(some 36), .mv (.t 5), none, false, []⟩,
   ⟨(some 37), .iaddr none 1 (.t 35) (.t 36), none, false, []⟩,
   ⟨(some 38), .load false 1 (.t 37), none, false, []⟩,
   ⟨(some 39), .mv (.t 4), none, false, []⟩,
   ⟨(some 40), .mv (.t 5), none, false, []⟩,
   ⟨(some 41), .bin .sc .sub (.t 40) (.c (.int .i64 1)), none, false, []⟩,
   ⟨(some 42), .iaddr none 1 (.t 39) (.t 41), none, false, []⟩,
   ⟨(some 43), .load false 1 (.t 42), none, false, []⟩,
   ⟨(some 44), .bin .sc .neq (.t 38) (.t 43), none, false, []⟩] (some [[], [], [0, 1], [0, 1, 2], [], [], [5], [4, 5, 6], [4, 5, 6, 7], [0, 1, 2, 3, 4, 5, 6, 7, 8]]))
 (.cond (.t 44) (.seq (.ops [⟨(some 45), .mv (.t 0), none, false, []⟩,
   ⟨(some 46), .mv (.t 3), none, false, []⟩,
   ⟨(some 47), .mv (.t 4), none, false, []⟩,
   ⟨(some 48), .mv (.t 5), none, false, []⟩,
   ⟨(some 49), .iaddr none 1 (.t 47) (.t 48), none, false, []⟩,
   ⟨(some 50), .load false 1 (.t 49), none, false, []⟩,
   ⟨(some 51), .iaddr none 1 (.t 45) (.t 46), none, false, []⟩,
   ⟨none, .store 1 (.t 51) (.t 50), none, false, []⟩] none)
 (.ops [⟨(some 52), .mv (.t 3), none, false, []⟩,
   ⟨(some 53), .bin .sc .add (.t 52) (.c (.int .i64 1)), none, false, []⟩,
   ⟨(some 3), .mv (.t 53), none, false, []⟩] none)) .skip)))
 (.ops [⟨(some 33), .mv (.t 5), none, false, []⟩,
   ⟨(some 34), .bin .sc .add (.t 33) (.c (.int .i64 1)), none, false, []⟩,
   ⟨(some 5), .mv (.t 34), none, false, []⟩] none))))))
 (.seq (.ops [⟨(some 54), .mv (.t 0), none, false, []⟩,
   ⟨(some 55), .mv (.t 3), none, false, []⟩,
   ⟨(some 56), .sliceL 1 (.t 54) (some (.t 55)) none none, none, false, []⟩,
   ⟨none, .clr 1 [.str []] (.t 56), none, false, []⟩] none)
 (.seq (.ops [⟨(some 57), .mv (.t 0), none, false, []⟩,
   ⟨(some 58), .mv (.t 3), none, false, []⟩,
   ⟨(some 59), .sliceL 1 (.t 57) none (some (.t 58)) none, none, false, []⟩,
   ⟨(some 2), .mv (.t 59), none, false, []⟩] none)
 .ret)))) .skip)))
 (.ops [⟨(some 14), .mv (.t 3), none, false, []⟩,
   ⟨(some 15), .bin .sc .add (.t 14) (.c (.int .i64 1)), none, false, []⟩,
   ⟨(some 3), .mv (.t 15), none, false, []⟩] none))))))
 (.seq (.ops [⟨(some 60), .mv (.t 0), none, false, []⟩,
   ⟨(some 2), .mv (.t 60), none, false, []⟩] none)
 .ret)))) }
/- slices.IndexFunc[[]api.Type,api.Type] -/
def f87 : AFunc :=
 { np := 2, ntmps := 19, results := [.tmp 4], frz := false, body :=
 (.seq (.ops [⟨(some 4), .mv (.c (.int .i64 0)), none, false, []⟩] none)
 (.seq (.seq (.ops [⟨(some 6), .mv (.t 0), none, false, []⟩,
   ⟨(some 7), .len 1 (.t 6), none, false, []⟩,
   ⟨(some 8), .mv (.c (.int .i64 0)), none, false, []⟩] none)
 (.block 0 (.loop (.seq (.ops [⟨(some 9), .bin .sc .lss (.t 8) (.t 7), none, false, []⟩] none)
 (.seq (.cond (.t 9) .skip (.exit 0))
 (.seq (.block 1 (.seq (.ops [⟨(some 10), .mv (.t 8), none, false, []⟩,
   ⟨(some 5), .mv (.t 10), none, false, []⟩] none)
 (.seq (.ops [⟨(some 11), .mv (.t 1), none, false, []⟩,
   ⟨(some 12), .mv (.t 0), none, false, []⟩,
   ⟨(some 13), .mv (.t 5), none, false, []⟩,
   ⟨(some 14), .iaddr none 4 (.t 12) (.t 13), none, false, []⟩,
   ⟨(some 15), .load true 4 (.t 14), none, false, []⟩,
   ⟨(some 16), .call (.t 11) [(.t 15)], none, false, []⟩] none)
 (.cond (.t 16) (.seq (.ops [⟨(some 17), .mv (.t 5), none, false, []⟩,
   ⟨(some 4), .mv (.t 17), none, false, []⟩] none)
 .ret) .skip))))
 (.ops [⟨(some 18), .bin .sc .add (.t 8) (.c (.int .i64 1)), none, false, []⟩,
   ⟨(some 8), .mv (.t 18), none, false, []⟩] none)))))))
 (.seq (.ops [⟨(some 4), .mv (.c (.int .i64 (-1))), none, false, []⟩] none)
 .ret))) }
/- data.right$1 -/
def f88 : AFunc :=
 { np := 3, ntmps := 10, results := [.tmp 4], frz := false, body :=
 (.seq (.ops [⟨(some 3), .box true (.t 0), none, false, []⟩,
   ⟨(some 4), .mv (.c (.bool false)), none, false, []⟩] none)
 (.seq (.ops [⟨(some 5), .load false 1 (.t 1), none, false, []⟩,
   ⟨(some 6), .load true 4 (.t 3), none, false, []⟩,
   ⟨(some 7), .load false 1 (.t 2), none, false, []⟩,
   ⟨(some 8), .call (.c (.func 54 [] [])) [(.t 5), (.t 6), (.t 7)], none, false, []⟩,
   ⟨(some 9), .not (.t 8), none, false, []⟩,
   ⟨(some 4), .mv (.t 9), none, false, []⟩] none)
 .ret)) }
/- data.arity -/
def f89 : AFunc :=
 { np := 2, ntmps := 23, results := [.tmp 4], frz := false, body :=
 (.seq (.ops [⟨(some 3), .box false (.t 1), none, false, []⟩,
   ⟨(some 4), .mv (.c (.int .i64 0)), none, false, []⟩] none)
 (.seq (.seq (.ops [⟨(some 6), .load false 1 (.t 3), none, false, []⟩,
   ⟨(some 7), .bin .sc .eql (.t 6) (.c (.str [73, 110, 116])), none, false, []⟩,
   ⟨(some 8), .mv (.t 7), none, false, []⟩,
   ⟨(some 9), .load false 1 (.t 3), (some (8, false)), false, []⟩,
   ⟨(some 10), .bin .sc .eql (.t 9) (.c (.str [66, 111, 111, 108])), (some (8, false)), false, []⟩,
   ⟨(some 11), .pick (.t 8) (.c (.bool true)) (.t 10), none, false, []⟩] none)
 (.cond (.t 11) (.seq (.ops [⟨(some 4), .mv (.c (.int .i64 0)), none, false, []⟩] none)
 .ret) .skip))
 (.seq (.ops [⟨(some 12), .mv (.t 0), none, false, []⟩,
   ⟨(some 13), .mkfun 111 [] [(.t 3)], none, false, []⟩,
   ⟨(some 14), .call (.c (.func 110 [] [])) [(.t 12), (.t 13)], none, false, []⟩,
   ⟨(some 5), .mv (.t 14), none, false, []⟩] none)
 (.seq (.seq (.ops [⟨(some 15), .mv (.t 5), none, false, []⟩,
   ⟨(some 16), .bin .sc .lss (.t 15) (.c (.int .i64 0)), none, false, []⟩] none)
 (.cond (.t 16) (.seq (.ops [⟨(some 4), .mv (.c (.int .i64 (-1))), none, false, []⟩] none)
 .ret) .skip))
 (.seq (.ops [⟨(some 17), .mv (.t 0), none, false, []⟩,
   ⟨(some 18), .mv (.t 5), none, false, []⟩,
   ⟨(some 19), .iaddr none 4 (.t 17) (.t 18), none, false, []⟩,
   ⟨(some 20), .faddr 2 (.t 19), none, false, []⟩,
   ⟨(some 21), .load false 1 (.t 20), none, false, []⟩,
   ⟨(some 22), .len 1 (.t 21), none, false, []⟩,
   ⟨(some 4), .mv (.t 22), none, false, []⟩] none)
 .ret))))) }
/- slices.Clone[[]api.Type,api.Type] -/
def f90 : AFunc :=
 { np := 1, ntmps := 8, results := [.tmp 2], frz := false, body :=
 (.seq (.ops [⟨(some 2), .mv (.c (.pl [] 0 .nil)), none, false, []⟩] none)
 (.seq (.seq (.ops [⟨(some 3), .mv (.t 0), none, false, []⟩,
   ⟨(some 4), .bin .slice .eql (.t 3) (.c (.pl [] 0 .nil)), none, false, []⟩] none)
 (.cond (.t 4) (.seq (.ops [⟨(some 2), .mv (.c (.pl [] 0 .nil)), none, false, []⟩] none)
 .ret) .skip))
 (.seq (.ops [⟨(some 5), .bslice false 0 [] [], none, false, []⟩,
   ⟨(some 6), .mv (.t 0), none, false, []⟩,
   ⟨(some 7), .app true 4 56 (.t 5) (.t 6), none, false, []⟩,
   ⟨(some 2), .mv (.t 7), none, false, []⟩] none)
 .ret))) }
/- math/bits.Len32 -/
def f107 : AFunc :=
 { np := 1, ntmps := 19, results := [.tmp 2], frz := false, body :=
 (.seq (.ops [⟨(some 2), .mv (.c (.int .i64 0)), none, false, []⟩] none)
 (.seq (.seq (.ops [⟨(some 3), .mv (.t 0), none, false, []⟩,
   ⟨(some 4), .bin .sc .geq (.t 3) (.c (.int .u32 65536)), none, false, []⟩] none)
 (.cond (.t 4) (.seq (.ops [⟨(some 5), .mv (.t 0), none, false, []⟩,
   ⟨(some 6), .bin .sc .shr (.t 5) (.c (.int .u64 16)), none, false, []⟩,
   ⟨(some 0), .mv (.t 6), none, false, []⟩] none)
 (.ops [⟨(some 2), .mv (.c (.int .i64 16)), none, false, []⟩] none)) .skip))
 (.seq (.seq (.ops [⟨(some 7), .mv (.t 0), none, false, []⟩,
   ⟨(some 8), .bin .sc .geq (.t 7) (.c (.int .u32 256)), none, false, []⟩] none)
 (.cond (.t 8) (.seq (.ops [⟨(some 9), .mv (.t 0), none, false, []⟩,
   ⟨(some 10), .bin .sc .shr (.t 9) (.c (.int .u64 8)), none, false, []⟩,
   ⟨(some 0), .mv (.t 10), none, false, []⟩] none)
 (.ops [⟨(some 11), .mv (.t 2), none, false, []⟩,
   ⟨(some 12), .bin .sc .add (.t 11) (.c (.int .i64 8)), none, false, []⟩,
   ⟨(some 2), .mv (.t 12), none, false, []⟩] none)) .skip))
 (.seq (.ops [⟨(some 13), .mv (.t 2), none, false, []⟩,
   ⟨(some 14), .mv (.t 0), none, false, []⟩,
   ⟨(some 15), .cint .u8 (.t 14), none, false, []⟩,
   ⟨(some 16), .index (.c (.str [0, 1, 2, 2, 3, 3, 3, 3, 4, 4, 4, 4, 4, 4, 4, 4, 5, 5, 5, 5, 5, 5, 5, 5, 5, 5, 5, 5, 5, 5, 5, 5, 6, 6, 6, 6, 6, 6, 6, 6, 6, 6, 6, 6, 6, 6, 6, 6, 6, 6, 6, 6, 6, 6, 6, 6, 6, 6, 6, 6, 6, 6, 6, 6, 7, 7, 7, 7, 7, 7, 7, 7, 7, 7, 7, 7, 7, 7, 7, 7, 7, 7, 7, 7, 7, 7, 7, 7, 7, 7, 7, 7, 7, 7, 7, 7, 7, 7, 7, 7, 7, 7, 7, 7, 7, 7, 7, 7, 7, 7, 7, 7, 7, 7, 7, 7, 7, 7, 7, 7, 7, 7, 7, 7, 7, 7, 7, 7, 8, 8, 8, 8, 8, 8, 8, 8, 8, 8, 8, 8, 8, 8, 8, 8, 8, 8, 8, 8, 8, 8, 8, 8, 8, 8, 8, 8, 8, 8, 8, 8, 8, 8, 8, 8, 8, 8, 8, 8, 8, 8, 8, 8, 8, 8, 8, 8, 8, 8, 8, 8, 8, 8, 8, 8, 8, 8, 8, 8, 8, 8, 8, 8, 8, 8, 8, 8, 8, 8, 8, 8, 8, 8, 8, 8, 8, 8, 8, 8, 8, 8, 8, 8, 8, 8, 8, 8, 8, 8, 8, 8, 8, 8, 8, 8, 8, 8, 8, 8, 8, 8, 8, 8, 8, 8, 8, 8, 8, 8, 8, 8, 8, 8, 8, 8, 8, 8, 8, 8, 8, 8, 8, 8, 8, 8, 8, 8])) (.t 15), none, false, []⟩,
   ⟨(some 17), .cint .i64 (.t 16), none, false, []⟩,
   ⟨(some 18), .bin .sc .add (.t 13) (.t 17), none, false, []⟩,
   ⟨(some 2), .mv (.t 18), none, false, []⟩] none)
 .ret)))) }
/- math/bits.Len64 -/
def f108 : AFunc :=
 { np := 1, ntmps := 25, results := [.tmp 2], frz := false, body :=
 (.seq (.ops [⟨(some 2), .mv (.c (.int .i64 0)), none, false, []⟩] none)
 (.seq (.seq (.ops [⟨(some 3), .mv (.t 0), none, false, []⟩,
   ⟨(some 4), .bin .sc .geq (.t 3) (.c (.int .u64 4294967296)), none, false, []⟩] none)
 (.cond (.t 4) (.seq (.ops [⟨(some 5), .mv (.t 0), none, false, []⟩,
   ⟨(some 6), .bin .sc .shr (.t 5) (.c (.int .u64 32)), none, false, []⟩,
   ⟨(some 0), .mv (.t 6), none, false, []⟩] none)
 (.ops [⟨(some 2), .mv (.c (.int .i64 32)), none, false, []⟩] none)) .skip))
 (.seq (.seq (.ops [⟨(some 7), .mv (.t 0), none, false, []⟩,
   ⟨(some 8), .bin .sc .geq (.t 7) (.c (.int .u64 65536)), none, false, []⟩] none)
 (.cond (.t 8) (.seq (.ops [⟨(some 9), .mv (.t 0), none, false, []⟩,
   ⟨(some 10), .bin .sc .shr (.t 9) (.c (.int .u64 16)), none, false, []⟩,
   ⟨(some 0), .mv (.t 10), none, false, []⟩] none)
 (.ops [⟨(some 11), .mv (.t 2), none, false, []⟩,
   ⟨(some 12), .bin .sc .add (.t 11) (.c (.int .i64 16)), none, false, []⟩,
   ⟨(some 2), .mv (.t 12), none, false, []⟩] none)) .skip))
 (.seq (.seq (.ops [⟨(some 13), .mv (.t 0), none, false, []⟩,
   ⟨(some 14), .bin .sc .geq (.t 13) (.c (.int .u64 256)), none, false, []⟩] none)
 (.cond (.t 14) (.seq (.ops [⟨(some 15), .mv (.t 0), none, false, []⟩,
   ⟨(some 16), .bin .sc .shr (.t 15) (.c (.int .u64 8)), none, false, []⟩,
   ⟨(some 0), .mv (.t 16), none, false, []⟩] none)
 (.ops [⟨(some 17), .mv (.t 2), none, false, []⟩,
   ⟨(some 18), .bin .sc .add (.t 17) (.c (.int .i64 8)), none, false, []⟩,
   ⟨(some 2), .mv (.t 18), none, false, []⟩] none)) .skip))
 (.seq (.ops [⟨(some 19), .mv (.t 2), none, false, []⟩,
   ⟨(some 20), .mv (.t 0), none, false, []⟩,
   ⟨(some 21), .cint .u8 (.t 20), none, false, []⟩,
   ⟨(some 22), .index (.c (.str [0, 1, 2, 2, 3, 3, 3, 3, 4, 4, 4, 4, 4, 4, 4, 4, 5, 5, 5, 5, 5, 5, 5, 5, 5, 5, 5, 5, 5, 5, 5, 5, 6, 6, 6, 6, 6, 6, 6, 6, 6, 6, 6, 6, 6, 6, 6, 6, 6, 6, 6, 6, 6, 6, 6, 6, 6, 6, 6, 6, 6, 6, 6, 6, 7, 7, 7, 7, 7, 7, 7, 7, 7, 7, 7, 7, 7, 7, 7, 7, 7, 7, 7, 7, 7, 7, 7, 7, 7, 7, 7, 7, 7, 7, 7, 7, 7, 7, 7, 7, 7, 7, 7, 7, 7, 7, 7, 7, 7, 7, 7, 7, 7, 7, 7, 7, 7, 7, 7, 7, 7, 7, 7, 7, 7, 7, 7, 7, 8, 8, 8, 8, 8, 8, 8, 8, 8, 8, 8, 8, 8, 8, 8, 8, 8, 8, 8, 8, 8, 8, 8, 8, 8, 8, 8, 8, 8, 8, 8, 8, 8, 8, 8, 8, 8, 8, 8, 8, 8, 8, 8, 8, 8, 8, 8, 8, 8, 8, 8, 8, 8, 8, 8, 8, 8, 8, 8, 8, 8, 8, 8, 8, 8, 8, 8, 8, 8, 8, 8, 8, 8, 8, 8, 8, 8, 8, 8, 8, 8, 8, 8, 8, 8, 8, 8, 8, 8, 8, 8, 8, 8, 8, 8, 8, 8, 8, 8, 8, 8, 8, 8, 8, 8, 8, 8, 8, 8, 8, 8, 8, 8, 8, 8, 8, 8, 8, 8, 8, 8, 8, 8, 8, 8, 8, 8, 8])) (.t 21), none, false, []⟩,
   ⟨(some 23), .cint .i64 (.t 22), none, false, []⟩,
   ⟨(some 24), .bin .sc .add (.t 19) (.t 23), none, false, []⟩,
   ⟨(some 2), .mv (.t 24), none, false, []⟩] none)
 .ret))))) }
/- slices.pdqsortOrdered[string] -/
def f109 : AFunc :=
 { np := 4, ntmps := 134, results := [], frz := false, body :=
 (.seq (.ops [⟨(some 8), .mv (.c (.bool true)), none, false, []⟩] none)
 (.seq (.ops [⟨(some 9), .mv (.c (.bool true)), none, false, []⟩] none)
 (.block 0 (.loop (.block 1 (.seq (.ops [⟨(some 19), .mv (.t 2), none, false, []⟩,
   ⟨(some 20), .mv (.t 1), none, false, []⟩,
   ⟨(some 21), .bin .sc .sub (.t 19) (.t 20), none, false, []⟩,
   ⟨(some 10), .mv (.t 21), none, false, []⟩] none)
 (.seq (.seq (.ops [⟨(some 22), .mv (.t 10), none, false, []⟩,
   ⟨(some 23), .bin .sc .leq (.t 22) (.c (.int .i64 12)), none, false, []⟩] none)
 (.cond (.t 23) (.seq (.ops [⟨(some 24), .mv (.t 0), none, false, []⟩,
   ⟨(some 25), .mv (.t 1), none, false, []⟩,
   ⟨(some 26), .mv (.t 2), none, false, []⟩,
   ⟨(some 27), .call (.c (.func 120 [] [])) [(.t 24), (.t 25), (.t 26)], none, false, []⟩] none)
 .ret) .skip))
 (.seq (.seq (.ops [⟨(some 28), .mv (.t 3), none, false, []⟩,
   ⟨(some 29), .bin .sc .eql (.t 28) (.c (.int .i64 0)), none, false, []⟩] none)
 (.cond (.t 29) (.seq (.ops [⟨(some 30), .mv (.t 0), none, false, []⟩,
   ⟨(some 31), .mv (.t 1), none, false, []⟩,
   ⟨(some 32), .mv (.t 2), none, false, []⟩,
   ⟨(some 33), .call (.c (.func 121 [] [])) [(.t 30), (.t 31), (.t 32)], none, false, []⟩] none)
 .ret) .skip))
 (.seq (.seq (.ops [⟨(some 34), .mv (.t 8), none, false, []⟩,
   ⟨(some 35), .not (.t 34), none, false, []⟩] none)
 (.cond (.t 35) (.seq (.ops [⟨(some 36), .mv (.t 0), none, false, []⟩,
   ⟨(some 37), .mv (.t 1), none, false, []⟩,
   ⟨(some 38), .mv (.t 2), none, false, []⟩,
   ⟨(some 39), .call (.c (.func 122 [] [])) [(.t 36), (.t 37), (.t 38)], none, false, []⟩] none)
 (.ops [⟨(some 40), .mv (.t 3), none, false, []⟩,
   ⟨(some 41), .bin .sc .sub (.t 40) (.c (.int .i64 1)), none, false, []⟩,
   ⟨(some 3), .mv (.t 41), none, false, []⟩] none)) .skip))
 (.seq (.ops [⟨(some 43), .mv (.t 0), none, false, []⟩,
   ⟨(some 44), .mv (.t 1), none, false, []⟩,
   ⟨(some 45), .mv (.t 2), none, false, []⟩,
   ⟨(some 46), .call (.c (.func 123 [] [])) [(.t 43), (.t 44), (.t 45)], none, false, []⟩,
   ⟨(some 42), .mv (.t 46), none, false, []⟩,
   ⟨(some 47), .extract 0 (.t 42), none, false, []⟩,
   ⟨(some 48), .extract 1 (.t 42), none, false, []⟩,
   ⟨(some 11), .mv (.t 47), none, false, []⟩,
   ⟨(some 12), .mv (.t 48), none, false, []⟩] none)
 (.seq (.seq (.ops [⟨(some 49), .mv (.t 12), none, false, []⟩,
   ⟨(some 50), .bin .sc .eql (.t 49) (.c (.int .i64 2)), none, false, []⟩] none)
 (.cond (.t 50) (.seq (.ops [⟨(some 51), .mv (.t 0), none, false, []⟩,
   ⟨(some 52), .mv (.t 1), none, false, []⟩,
   ⟨(some 53), .mv (.t 2), none, false, []⟩,
   ⟨(some 54), .call (.c (.func 124 [] [])) [(.t 51), (.t 52), (.t 53)], none, false, []⟩] none)
 (.seq (.ops [⟨(some 55), .mv (.t 2), none, false, []⟩,
   ⟨(some 56), .bin .sc .sub (.t 55) (.c (.int .i64 1)), none, false, []⟩,
   ⟨(some 57), .mv (.t 11), none, false, []⟩,
   ⟨(some 58), .mv (.t 1), none, false, []⟩,
   ⟨(some 59), .bin .sc .sub (.t 57) (.t 58), none, false, []⟩,
   ⟨(some 60), .bin .sc .sub (.t 56) (.t 59), none, false, []⟩,
   ⟨(some 11), .mv (.t 60), none, false, []⟩] none)
 (.ops [⟨(some 12), .mv (.c (.int .i64 1)), none, false, []⟩] none))) .skip))
 (.seq (.seq (.ops [⟨(some 61), .mv (.t 8), none, false, []⟩,
   ⟨(some 62), .mv (.t 61), none, false, []⟩,
   ⟨(some 63), .mv (.t 9), (some (62, true)), false, []⟩,
   ⟨(some 64), .pick (.t 62) (.t 63) (.c (.bool false)), none, false, []⟩,
   ⟨(some 65), .mv (.t 64), none, false, []⟩,
   ⟨(some 66), .mv (.t 12), (some (65, true)), false, []⟩,
   ⟨(some 67), .bin .sc .eql (.t 66) (.c (.int .i64 1)), (some (65, true)), false, []⟩,
   ⟨(some 68), .pick (.t 65) (.t 67) (.c (.bool false)), none, false, []⟩] none)
 (.cond (.t 68) (.seq (.ops [⟨(some 69), .mv (.t 0), none, false, []⟩,
   ⟨(some 70), .mv (.t 1), none, false, []⟩,
   ⟨(some 71), .mv (.t 2), none, false, []⟩,
   ⟨(some 72), .call (.c (.func 125 [] [])) [(.t 69), (.t 70), (.t 71)], none, false, []⟩] none)
 (.cond (.t 72) .ret .skip)) .skip))
 (.seq (.seq (.ops [⟨(some 73), .mv (.t 1), none, false, []⟩,
   ⟨(some 74), .bin .sc .gtr (.t 73) (.c (.int .i64 0)), none, false, []⟩,
   ⟨(some 75), .mv (.t 74), none, false, []⟩,
   ⟨(some 76), .mv (.t 0), (some (75, true)), false, []⟩,
   ⟨(some 77), .mv (.t 1), (some (75, true)), false, []⟩,
   ⟨(some 78), .bin .sc .sub (.t 77) (.c (.int .i64 1)), (some (75, true)), false, []⟩,
   ⟨(some 79), .iaddr none 1 (.t 76) (.t 78), (some (75, true)), false, []⟩,
   ⟨(some 80), .load false 1 (.t 79), (some (75, true)), false, []⟩,
   ⟨(some 81), .mv (.t 0), (some (75, true)), false, []⟩,
   ⟨(some 82), .mv (.t 11), (some (75, true)), false, []⟩,
   ⟨(some 83), .iaddr none 1 (.t 81) (.t 82), (some (75, true)), false, []⟩,
   ⟨(some 84), .load false 1 (.t 83), (some (75, true)), false, []⟩,
   ⟨(some 85), .call (.c (.func 126 [] [])) [(.t 80), (.t 84)], (some (75, true)), false, []⟩,
   ⟨(some 86), .not (.t 85), (some (75, true)), false, []⟩,
   ⟨(some 87), .pick (.t 75) (.t 86) (.c (.bool false)), none, false, []⟩] (some [[], [0], [0, 1], [0, 1, 2], [0, 1, 2], [0, 1, 2, 4], [0, 1, 2, 3, 4, 5], [0, 1, 2, 3, 4, 5, 6], [0, 1, 2], [0, 1, 2], [0, 1, 2, 8, 9], [0, 1, 2, 8, 9, 10], [0, 1, 2, 3, 4, 5, 6, 7, 8, 9, 10, 11], [0, 1, 2, 3, 4, 5, 6, 7, 8, 9, 10, 11, 12], [0, 1, 2, 3, 4, 5, 6, 7, 8, 9, 10, 11, 12, 13]]))
 (.cond (.t 87) (.seq (.ops [⟨(some 88), .mv (.t 0), none, false, []⟩,
   ⟨(some 89), .mv (.t 1), none, false, []⟩,
   ⟨(some 90), .mv (.t 2), none, false, []⟩,
   ⟨(some 91), .mv (.t 11), none, false, []⟩,
   ⟨(some 92), .call (.c (.func 127 [] [])) [(.t 88), (.t 89), (.t 90), (.t 91)], none, false, []⟩,
   ⟨(some 13), .mv (.t 92), none, false, []⟩] none)
 (.seq (.ops [⟨(some 93), .mv (.t 13), none, false, []⟩,
   ⟨(some 1), .mv (.t 93), none, false, []⟩] none)
 (.exit 1))) .skip))
 (.seq (.ops [⟨(some 95), .mv (.t 0), none, false, []⟩,
   ⟨(some 96), .mv (.t 1), none, false, []⟩,
   ⟨(some 97), .mv (.t 2), none, false, []⟩,
   ⟨(some 98), .mv (.t 11), none, false, []⟩,
   ⟨(some 99), .call (.c (.func 128 [] [])) [(.t 95), (.t 96), (.t 97), (.t 98)], none, false, []⟩,
   ⟨(some 94), .mv (.t 99), none, false, []⟩,
   ⟨(some 100), .extract 0 (.t 94), none, false, []⟩,
   ⟨(some 101), .extract 1 (.t 94), none, false, []⟩,
   ⟨(some 14), .mv (.t 100), none, false, []⟩,
   ⟨(some 15), .mv (.t 101), none, false, []⟩] none)
 (.seq (.ops [⟨(some 102), .mv (.t 15), none, false, []⟩,
   ⟨(some 9), .mv (.t 102), none, false, []⟩] none)
 (.seq (.ops [⟨(some 103), .mv (.t 14), none, false, []⟩,
   ⟨(some 104), .mv (.t 1), none, false, []⟩,
   ⟨(some 105), .bin .sc .sub (.t 103) (.t 104), none, false, []⟩,
   ⟨(some 106), .mv (.t 2), none, false, []⟩,
   ⟨(some 107), .mv (.t 14), none, false, []⟩,
   ⟨(some 108), .bin .sc .sub (.t 106) (.t 107), none, false, []⟩,
   ⟨(some 16), .mv (.t 105), none, false, []⟩,
   ⟨(some 17), .mv (.t 108), none, false, []⟩] none)
 (.seq (.ops [⟨(some 109), .mv (.t 10), none, false, []⟩,
   ⟨(some 110), .bin .sc .quo (.t 109) (.c (.int .i64 8)), none, false, []⟩,
   ⟨(some 18), .mv (.t 110), none, false, []⟩] none)
 (.seq (.ops [⟨(some 111), .mv (.t 16), none, false, []⟩,
   ⟨(some 112), .mv (.t 17), none, false, []⟩,
   ⟨(some 113), .bin .sc .lss (.t 111) (.t 112), none, false, []⟩] none)
 (.cond (.t 113) (.seq (.ops [⟨(some 114), .mv (.t 16), none, false, []⟩,
   ⟨(some 115), .mv (.t 18), none, false, []⟩,
   ⟨(some 116), .bin .sc .geq (.t 114) (.t 115), none, false, []⟩,
   ⟨(some 8), .mv (.t 116), none, false, []⟩] none)
 (.seq (.ops [⟨(some 117), .mv (.t 0), none, false, []⟩,
   ⟨(some 118), .mv (.t 1), none, false, []⟩,
   ⟨(some 119), .mv (.t 14), none, false, []⟩,
   ⟨(some 120), .mv (.t 3), none, false, []⟩,
   ⟨(some 121), .call (.c (.func 109 [] [])) [(.t 117), (.t 118), (.t 119), (.t 120)], none, false, []⟩] none)
 (.ops [⟨(some 122), .mv (.t 14), none, false, []⟩,
   ⟨(some 123), .bin .sc .add (.t 122) (.c (.int .i64 1)), none, false, []⟩,
   ⟨(some 1), .mv (.t 123), none, false, []⟩] none))) (.seq (.ops [⟨(some 124), .mv (.t 17), none, false, []⟩,
   ⟨(some 125), .mv (.t 18), none, false, []⟩,
   ⟨(some 126), .bin .sc .geq (.t 124) (.t 125), none, false, []⟩,
   ⟨(some 8), .mv (.t 126), none, false, []⟩] none)
 (.seq (.ops [⟨(some 127), .mv (.t 0), none, false, []⟩,
   ⟨(some 128), .mv (.t 14), none, false, []⟩,
   ⟨(some 129), .bin .sc .add (.t 128) (.c (.int .i64 1)), none, false, []⟩,
   ⟨(some 130), .mv (.t 2), none, false, []⟩,
   ⟨(some 131), .mv (.t 3), none, false, []⟩,
   ⟨(some 132), .call (.c (.func 109 [] [])) [(.t 127), (.t 129), (.t 130), (.t 131)], none, false, []⟩] none)
 (.ops [⟨(some 133), .mv (.t 14), none, false, []⟩,
   ⟨(some 2), .mv (.t 133), none, false, []⟩] none)))))))))))))))))))))) }
/- slices.IndexFunc[[]api.Data,api.Data] -/
def f110 : AFunc :=
 { np := 2, ntmps := 19, results := [.tmp 4], frz := false, body :=
 (.seq (.ops [⟨(some 4), .mv (.c (.int .i64 0)), none, false, []⟩] none)
 (.seq (.seq (.ops [⟨(some 6), .mv (.t 0), none, false, []⟩,
   ⟨(some 7), .len 1 (.t 6), none, false, []⟩,
   ⟨(some 8), .mv (.c (.int .i64 0)), none, false, []⟩] none)
 (.block 0 (.loop (.seq (.ops [⟨(some 9), .bin .sc .lss (.t 8) (.t 7), none, false, []⟩] none)
 (.seq (.cond (.t 9) .skip (.exit 0))
 (.seq (.block 1 (.seq (.ops [⟨(some 10), .mv (.t 8), none, false, []⟩,
   ⟨(some 5), .mv (.t 10), none, false, []⟩] none)
 (.seq (.ops [⟨(some 11), .mv (.t 1), none, false, []⟩,
   ⟨(some 12), .mv (.t 0), none, false, []⟩,
   ⟨(some 13), .mv (.t 5), none, false, []⟩,
   ⟨(some 14), .iaddr none 4 (.t 12) (.t 13), none, false, []⟩,
   ⟨(some 15), .load true 4 (.t 14), none, false, []⟩,
   ⟨(some 16), .call (.t 11) [(.t 15)], none, false, []⟩] none)
 (.cond (.t 16) (.seq (.ops [⟨(some 17), .mv (.t 5), none, false, []⟩,
   ⟨(some 4), .mv (.t 17), none, false, []⟩] none)
 .ret) .skip))))
 (.ops [⟨(some 18), .bin .sc .add (.t 8) (.c (.int .i64 1)), none, false, []⟩,
   ⟨(some 8), .mv (.t 18), none, false, []⟩] none)))))))
 (.seq (.ops [⟨(some 4), .mv (.c (.int .i64 (-1))), none, false, []⟩] none)
 .ret))) }
/- data.arity$1 -/
def f111 : AFunc :=
 { np := 2, ntmps := 8, results := [.tmp 3], frz := false, body :=
 (.seq (.ops [⟨(some 2), .box true (.t 0), none, false, []⟩,
   ⟨(some 3), .mv (.c (.bool false)), none, false, []⟩] none)
 (.seq (.ops [⟨(some 4), .faddr 0 (.t 2), none, false, []⟩,
   ⟨(some 5), .load false 1 (.t 4), none, false, []⟩,
   ⟨(some 6), .load false 1 (.t 1), none, false, []⟩,
   ⟨(some 7), .bin .sc .eql (.t 5) (.t 6), none, false, []⟩,
   ⟨(some 3), .mv (.t 7), none, false, []⟩] none)
 .ret)) }
/- slices.nextPowerOfTwo -/
def f115 : AFunc :=
 { np := 1, ntmps := 7, results := [.tmp 2], frz := false, body :=
 (.seq (.ops [⟨(some 2), .mv (.c (.int .u64 0)), none, false, []⟩] none)
 (.seq (.ops [⟨(some 3), .mv (.t 0), none, false, []⟩,
   ⟨(some 4), .cint .u64 (.t 3), none, false, []⟩,
   ⟨(some 5), .call (.c (.func 83 [] [])) [(.t 4)], none, false, []⟩,
   ⟨(some 6), .bin .sc .shl (.c (.int .u64 1)) (.t 5), none, false, []⟩,
   ⟨(some 2), .mv (.t 6), none, false, []⟩] none)
 .ret)) }
/- (*slices.xorshift).Next -/
def f116 : AFunc :=
 { np := 1, ntmps := 33, results := [.tmp 2], frz := false, body :=
 (.seq (.ops [⟨(some 2), .mv (.c (.int .u64 0)), none, false, []⟩] none)
 (.seq (.ops [⟨(some 3), .mv (.t 0), none, false, []⟩,
   ⟨(some 4), .nilck (.t 3), none, false, []⟩,
   ⟨(some 5), .load false 1 (.t 4), none, false, []⟩,
   ⟨(some 6), .mv (.t 0), none, false, []⟩,
   ⟨(some 7), .nilck (.t 6), none, false, []⟩,
   ⟨(some 8), .load false 1 (.t 7), none, false, []⟩,
   ⟨(some 9), .bin .sc .shl (.t 8) (.c (.int .u64 13)), none, false, []⟩,
   ⟨(some 10), .bin .sc .xor (.t 5) (.t 9), none, false, []⟩,
   ⟨(some 11), .nilck (.t 3), none, false, []⟩,
   ⟨none, .store 1 (.t 11) (.t 10), none, false, []⟩] (some [[], [0], [0, 1], [], [3], [3, 4], [3, 4, 5], [0, 1, 2, 3, 4, 5, 6], [0, 1, 2, 3, 4, 5, 6, 7], [0, 1, 2, 3, 4, 5, 6, 7, 8]]))
 (.seq (.ops [⟨(some 12), .mv (.t 0), none, false, []⟩,
   ⟨(some 13), .nilck (.t 12), none, false, []⟩,
   ⟨(some 14), .load false 1 (.t 13), none, false, []⟩,
   ⟨(some 15), .mv (.t 0), none, false, []⟩,
   ⟨(some 16), .nilck (.t 15), none, false, []⟩,
   ⟨(some 17), .load false 1 (.t 16), none, false, []⟩,
   ⟨(some 18), .bin .sc .shr (.t 17) (.c (.int .u64 7)), none, false, []⟩,
   ⟨(some 19), .bin .sc .xor (.t 14) (.t 18), none, false, []⟩,
   ⟨(some 20), .nilck (.t 12), none, false, []⟩,
   ⟨none, .store 1 (.t 20) (.t 19), none, false, []⟩] (some [[], [0], [0, 1], [], [3], [3, 4], [3, 4, 5], [0, 1, 2, 3, 4, 5, 6], [0, 1, 2, 3, 4, 5, 6, 7], [0, 1, 2, 3, 4, 5, 6, 7, 8]]))
 (.seq (.ops [⟨(some 21), .mv (.t 0), none, false, []⟩,
   ⟨(some 22), .nilck (.t 21), none, false, []⟩,
   ⟨(some 23), .load false 1 (.t 22), none, false, []⟩,
   ⟨(some 24), .mv (.t 0), none, false, []⟩,
   ⟨(some 25), .nilck (.t 24), none, false, []⟩,
   ⟨(some 26), .load false 1 (.t 25), none, false, []⟩,
   ⟨(some 27), .bin .sc .shl (.t 26) (.c (.int .u64 17)), none, false, []⟩,
   ⟨(some 28), .bin .sc .xor (.t 23) (.t 27), none, false, []⟩,
   ⟨(some 29), .nilck (.t 21), none, false, []⟩,
   ⟨none, .store 1 (.t 29) (.t 28), none, false, []⟩] (some [[], [0], [0, 1], [], [3], [3, 4], [3, 4, 5], [0, 1, 2, 3, 4, 5, 6], [0, 1, 2, 3, 4, 5, 6, 7], [0, 1, 2, 3, 4, 5, 6, 7, 8]]))
 (.seq (.ops [⟨(some 30), .mv (.t 0), none, false, []⟩,
   ⟨(some 31), .nilck (.t 30), none, false, []⟩,
   ⟨(some 32), .load false 1 (.t 31), none, false, []⟩,
   ⟨(some 2), .mv (.t 32), none, false, []⟩] none)
 .ret))))) }
/- slices.insertionSortOrdered[string] -/
def f120 : AFunc :=
 { np := 3, ntmps := 49, results := [], frz := false, body :=
 (.seq (.ops [⟨(some 8), .mv (.t 1), none, false, []⟩,
   ⟨(some 9), .bin .sc .add (.t 8) (.c (.int .i64 1)), none, false, []⟩,
   ⟨(some 6), .mv (.t 9), none, false, []⟩] none)
 (.block 0 (.loop (.seq (.seq (.ops [⟨(some 10), .mv (.t 6), none, false, []⟩,
   ⟨(some 11), .mv (.t 2), none, false, []⟩,
   ⟨(some 12), .bin .sc .lss (.t 10) (.t 11), none, false, []⟩] none)
 (.cond (.t 12) .skip (.exit 0)))
 (.seq (.block 1 (.seq (.ops [⟨(some 15), .mv (.t 6), none, false, []⟩,
   ⟨(some 7), .mv (.t 15), none, false, []⟩] none)
 (.block 2 (.loop (.seq (.seq (.ops [⟨(some 16), .mv (.t 7), none, false, []⟩,
   ⟨(some 17), .mv (.t 1), none, false, []⟩,
   ⟨(some 18), .bin .sc .gtr (.t 16) (.t 17), none, false, []⟩,
   ⟨(some 19), .mv (.t 18), none, false, []⟩,
   ⟨(some 20), .mv (.t 0), (some (19, true)), false, []⟩,
   ⟨(some 21), .mv (.t 7), (some (19, true)), false, []⟩,
   ⟨(some 22), .iaddr none 1 (.t 20) (.t 21), (some (19, true)), false, []⟩,
   ⟨(some 23), .load false 1 (.t 22), (some (19, true)), false, []⟩,
   ⟨(some 24), .mv (.t 0), (some (19, true)), false, []⟩,
   ⟨(some 25), .mv (.t 7), (some (19, true)), false, []⟩,
   ⟨(some 26), .bin .sc .sub (.t 25) (.c (.int .i64 1)), (some (19, true)), false, []⟩,
   ⟨(some 27), .iaddr none 1 (.t 24) (.t 26), (some (19, true)), false, []⟩,
   ⟨(some 28), .load false 1 (.t 27), (some (19, true)), false, []⟩,
   ⟨(some 29), .call (.c (.func 126 [] [])) [(.t 23), (.t 28)], (some (19, true)), false, []⟩,
   ⟨(some 30), .pick (.t 19) (.t 29) (.c (.bool false)), none, false, []⟩] (some [[], [], [0, 1], [0, 1, 2], [0, 1, 2, 3], [0, 1, 2, 3], [0, 1, 2, 3, 4, 5], [0, 1, 2, 3, 4, 5, 6], [0, 1, 2, 3], [0, 1, 2, 3], [0, 1, 2, 3, 9], [0, 1, 2, 3, 8, 9, 10], [0, 1, 2, 3, 8, 9, 10, 11], [0, 1, 2, 3, 4, 5, 6, 7, 8, 9, 10, 11, 12], [0, 1, 2, 3, 4, 5, 6, 7, 8, 9, 10, 11, 12, 13]]))
 (.cond (.t 30) .skip (.exit 2)))
 (.seq (.block 3 (.ops [⟨(some 33), .mv (.t 0), none, false, []⟩,
   ⟨(some 34), .mv (.t 7), none, false, []⟩,
   ⟨(some 35), .mv (.t 0), none, false, []⟩,
   ⟨(some 36), .mv (.t 7), none, false, []⟩,
   ⟨(some 37), .bin .sc .sub (.t 36) (.c (.int .i64 1)), none, false, []⟩,
   ⟨(some 38), .mv (.t 0), none, false, []⟩,
   ⟨(some 39), .mv (.t 7), none, false, []⟩,
   ⟨(some 40), .bin .sc .sub (.t 39) (.c (.int .i64 1)), none, false, []⟩,
   ⟨(some 41), .iaddr none 1 (.t 38) (.t 40), none, false, []⟩,
   ⟨(some 42), .load false 1 (.t 41), none, false, []⟩,
   ⟨(some 43), .mv (.t 0), none, false, []⟩,
   ⟨(some 44), .mv (.t 7), none, false, []⟩,
   ⟨(some 45), .iaddr none 1 (.t 43) (.t 44), none, false, []⟩,
   ⟨(some 46), .load false 1 (.t 45), none, false, []⟩,
   ⟨(some 47), .iaddr none 1 (.t 33) (.t 34), none, false, []⟩,
   ⟨none, .store 1 (.t 47) (.t 42), none, false, []⟩,
   ⟨(some 48), .iaddr none 1 (.t 35) (.t 37), none, false, []⟩,
   ⟨none, .store 1 (.t 48) (.t 46), none, false, []⟩] (some [[], [], [], [], [3], [], [], [6], [5, 6, 7], [5, 6, 7, 8], [], [], [10, 11], [10, 11, 12], [0, 1, 5, 6, 7, 8, 9, 10, 11, 12, 13], [0, 1, 5, 6, 7, 8, 9, 10, 11, 12, 13, 14], [0, 1, 2, 3, 4, 5, 6, 7, 8, 9, 10, 11, 12, 13, 14, 15], [0, 1, 2, 3, 4, 5, 6, 7, 8, 9, 10, 11, 12, 13, 14, 15, 16]])))
 (.ops [⟨(some 31), .mv (.t 7), none, false, []⟩,
   ⟨(some 32), .bin .sc .sub (.t 31) (.c (.int .i64 1)), none, false, []⟩,
   ⟨(some 7), .mv (.t 32), none, false, []⟩] none)))))))
 (.ops [⟨(some 13), .mv (.t 6), none, false, []⟩,
   ⟨(some 14), .bin .sc .add (.t 13) (.c (.int .i64 1)), none, false, []⟩,
   ⟨(some 6), .mv (.t 14), none, false, []⟩] none)))))) }
/- slices.heapSortOrdered[string] -/
def f121 : AFunc :=
 { np := 3, ntmps := 56, results := [], frz := false, body :=
 (.seq (.ops [⟨(some 11), .mv (.t 1), none, false, []⟩,
   ⟨(some 6), .mv (.t 11), none, false, []⟩] none)
 (.seq (.ops [⟨(some 7), .mv (.c (.int .i64 0)), none, false, []⟩] none)
 (.seq (.ops [⟨(some 12), .mv (.t 2), none, false, []⟩,
   ⟨(some 13), .mv (.t 1), none, false, []⟩,
   ⟨(some 14), .bin .sc .sub (.t 12) (.t 13), none, false, []⟩,
   ⟨(some 8), .mv (.t 14), none, false, []⟩] none)
 (.seq (.seq (.ops [⟨(some 15), .mv (.t 8), none, false, []⟩,
   ⟨(some 16), .bin .sc .sub (.t 15) (.c (.int .i64 1)), none, false, []⟩,
   ⟨(some 17), .bin .sc .quo (.t 16) (.c (.int .i64 2)), none, false, []⟩,
   ⟨(some 9), .mv (.t 17), none, false, []⟩] none)
 (.block 0 (.loop (.seq (.seq (.ops [⟨(some 18), .mv (.t 9), none, false, []⟩,
   ⟨(some 19), .bin .sc .geq (.t 18) (.c (.int .i64 0)), none, false, []⟩] none)
 (.cond (.t 19) .skip (.exit 0)))
 (.seq (.block 1 (.ops [⟨(some 22), .mv (.t 0), none, false, []⟩,
   ⟨(some 23), .mv (.t 9), none, false, []⟩,
   ⟨(some 24), .mv (.t 8), none, false, []⟩,
   ⟨(some 25), .mv (.t 6), none, false, []⟩,
   ⟨(some 26), .call (.c (.func 131 [] [])) [(.t 22), (.t 23), (.t 24), (.t 25)], none, false, []⟩] none))
 (.ops [⟨(some 20), .mv (.t 9), none, false, []⟩,
   ⟨(some 21), .bin .sc .sub (.t 20) (.c (.int .i64 1)), none, false, []⟩,
   ⟨(some 9), .mv (.t 21), none, false, []⟩] none))))))
 (.seq (.ops [⟨(some 27), .mv (.t 8), none, false, []⟩,
   ⟨(some 28), .bin .sc .sub (.t 27) (.c (.int .i64 1)), none, false, []⟩,
   ⟨(some 10), .mv (.t 28), none, false, []⟩] none)
 (.block 2 (.loop (.seq (.seq (.ops [⟨(some 29), .mv (.t 10), none, false, []⟩,
   ⟨(some 30), .bin .sc .geq (.t 29) (.c (.int .i64 0)), none, false, []⟩] none)
 (.cond (.t 30) .skip (.exit 2)))
 (.seq (.block 3 (.seq (.ops [⟨(some 33), .mv (.t 0), none, false, []⟩,
   ⟨(some 34), .mv (.t 6), none, false, []⟩,
   ⟨(some 35), .mv (.t 0), none, false, []⟩,
   ⟨(some 36), .mv (.t 6), none, false, []⟩,
   ⟨(some 37), .mv (.t 10), none, false, []⟩,
   ⟨(some 38), .bin .sc .add (.t 36) (.t 37), none, false, []⟩,
   ⟨(some 39), .mv (.t 0), none, false, []⟩,
   ⟨(some 40), .mv (.t 6), none, false, []⟩,
   ⟨(some 41), .mv (.t 10), none, false, []⟩,
   ⟨(some 42), .bin .sc .add (.t 40) (.t 41), none, false, []⟩,
   ⟨(some 43), .iaddr none 1 (.t 39) (.t 42), none, false, []⟩,
   ⟨(some 44), .load false 1 (.t 43), none, false, []⟩,
   ⟨(some 45), .mv (.t 0), none, false, []⟩,
   ⟨(some 46), .mv (.t 6), none, false, []⟩,
   ⟨(some 47), .iaddr none 1 (.t 45) (.t 46), none, false, []⟩,
   ⟨(some 48), .load false 1 (.t 47), none, false, []⟩,
   ⟨(some 49), .iaddr none 1 (.t 33) (.t 34), none, false, []⟩,
   ⟨none, .store 1 (.t 49) (.t 44), none, false, []⟩,
   ⟨(some 50), .iaddr none 1 (.t 35) (.t 38), none, false, []⟩,
   ⟨none, .store 1 (.t 50) (.t 48), none, false, []⟩] (some [[], [], [], [], [], [3, 4], [], [], [], [7, 8], [6, 7, 8, 9], [6, 7, 8, 9, 10], [], [], [12, 13], [12, 13, 14], [0, 1, 6, 7, 8, 9, 10, 11, 12, 13, 14, 15], [0, 1, 6, 7, 8, 9, 10, 11, 12, 13, 14, 15, 16], [0, 1, 2, 3, 4, 5, 6, 7, 8, 9, 10, 11, 12, 13, 14, 15, 16, 17], [0, 1, 2, 3, 4, 5, 6, 7, 8, 9, 10, 11, 12, 13, 14, 15, 16, 17, 18]]))
 (.ops [⟨(some 51), .mv (.t 0), none, false, []⟩,
   ⟨(some 52), .mv (.t 7), none, false, []⟩,
   ⟨(some 53), .mv (.t 10), none, false, []⟩,
   ⟨(some 54), .mv (.t 6), none, false, []⟩,
   ⟨(some 55), .call (.c (.func 131 [] [])) [(.t 51), (.t 52), (.t 53), (.t 54)], none, false, []⟩] none)))
 (.ops [⟨(some 31), .mv (.t 10), none, false, []⟩,
   ⟨(some 32), .bin .sc .sub (.t 31) (.c (.int .i64 1)), none, false, []⟩,
   ⟨(some 10), .mv (.t 32), none, false, []⟩] none)))))))))) }
/- slices.breakPatternsOrdered[string] -/
def f122 : AFunc :=
 { np := 3, ntmps := 65, results := [], frz := false, body :=
 (.seq (.ops [⟨(some 11), .mv (.t 2), none, false, []⟩,
   ⟨(some 12), .mv (.t 1), none, false, []⟩,
   ⟨(some 13), .bin .sc .sub (.t 11) (.t 12), none, false, []⟩,
   ⟨(some 6), .mv (.t 13), none, false, []⟩] none)
 (.seq (.ops [⟨(some 14), .mv (.t 6), none, false, []⟩,
   ⟨(some 15), .bin .sc .geq (.t 14) (.c (.int .i64 8)), none, false, []⟩] none)
 (.cond (.t 15) (.seq (.ops [⟨(some 16), .mv (.t 6), none, false, []⟩,
   ⟨(some 17), .cint .u64 (.t 16), none, false, []⟩,
   ⟨(some 7), .alloc false [.int .u64 0], none, false, []⟩,
   ⟨none, .store 1 (.t 7) (.t 17), none, false, []⟩] none)
 (.seq (.ops [⟨(some 18), .mv (.t 6), none, false, []⟩,
   ⟨(some 19), .call (.c (.func 115 [] [])) [(.t 18)], none, false, []⟩,
   ⟨(some 8), .mv (.t 19), none, false, []⟩] none)
 (.seq (.ops [⟨(some 20), .mv (.t 1), none, false, []⟩,
   ⟨(some 21), .mv (.t 6), none, false, []⟩,
   ⟨(some 22), .bin .sc .quo (.t 21) (.c (.int .i64 4)), none, false, []⟩,
   ⟨(some 23), .bin .sc .mul (.t 22) (.c (.int .i64 2)), none, false, []⟩,
   ⟨(some 24), .bin .sc .add (.t 20) (.t 23), none, false, []⟩,
   ⟨(some 25), .bin .sc .sub (.t 24) (.c (.int .i64 1)), none, false, []⟩,
   ⟨(some 9), .mv (.t 25), none, false, []⟩] none)
 (.block 0 (.loop (.seq (.seq (.ops [⟨(some 26), .mv (.t 9), none, false, []⟩,
   ⟨(some 27), .mv (.t 1), none, false, []⟩,
   ⟨(some 28), .mv (.t 6), none, false, []⟩,
   ⟨(some 29), .bin .sc .quo (.t 28) (.c (.int .i64 4)), none, false, []⟩,
   ⟨(some 30), .bin .sc .mul (.t 29) (.c (.int .i64 2)), none, false, []⟩,
   ⟨(some 31), .bin .sc .add (.t 27) (.t 30), none, false, []⟩,
   ⟨(some 32), .bin .sc .add (.t 31) (.c (.int .i64 1)), none, false, []⟩,
   ⟨(some 33), .bin .sc .leq (.t 26) (.t 32), none, false, []⟩] none)
 (.cond (.t 33) .skip (.exit 0)))
 (.seq (.block 1 (.seq (.ops [⟨(some 36), .call (.c (.func 116 [] [])) [(.t 7)], none, false, []⟩,
   ⟨(some 37), .mv (.t 8), none, false, []⟩,
   ⟨(some 38), .bin .sc .sub (.t 37) (.c (.int .u64 1)), none, false, []⟩,
   ⟨(some 39), .bin .sc .and (.t 36) (.t 38), none, false, []⟩,
   ⟨(some 40), .cint .i64 (.t 39), none, false, []⟩,
   ⟨(some 10), .mv (.t 40), none, false, []⟩] none)
 (.seq (.seq (.ops [⟨(some 41), .mv (.t 10), none, false, []⟩,
   ⟨(some 42), .mv (.t 6), none, false, []⟩,
   ⟨(some 43), .bin .sc .geq (.t 41) (.t 42), none, false, []⟩] none)
 (.cond (.t 43) (.ops [⟨(some 44), .mv (.t 10), none, false, []⟩,
   ⟨(some 45), .mv (.t 6), none, false, []⟩,
   ⟨(some 46), .bin .sc .sub (.t 44) (.t 45), none, false, []⟩,
   ⟨(some 10), .mv (.t 46), none, false, []⟩] none) .skip))
 (.ops [⟨(some 47), .mv (.t 0), none, false, []⟩,
   ⟨(some 48), .mv (.t 9), none, false, []⟩,
   ⟨(some 49), .mv (.t 0), none, false, []⟩,
   ⟨(some 50), .mv (.t 1), none, false, []⟩,
   ⟨(some 51), .mv (.t 10), none, false, []⟩,
   ⟨(some 52), .bin .sc .add (.t 50) (.t 51), none, false, []⟩,
   ⟨(some 53), .mv (.t 0), none, false, []⟩,
   ⟨(some 54), .mv (.t 1), none, false, []⟩,
   ⟨(some 55), .mv (.t 10), none, false, []⟩,
   ⟨(some 56), .bin .sc .add (.t 54) (.t 55), none, false, []⟩,
   ⟨(some 57), .iaddr none 1 (.t 53) (.t 56), none, false, []⟩,
   ⟨(some 58), .load false 1 (.t 57), none, false, []⟩,
   ⟨(some 59), .mv (.t 0), none, false, []⟩,
   ⟨(some 60), .mv (.t 9), none, false, []⟩,
   ⟨(some 61), .iaddr none 1 (.t 59) (.t 60), none, false, []⟩,
   ⟨(some 62), .load false 1 (.t 61), none, false, []⟩,
   ⟨(some 63), .iaddr none 1 (.t 47) (.t 48), none, false, []⟩,
   ⟨none, .store 1 (.t 63) (.t 58), none, false, []⟩,
   ⟨(some 64), .iaddr none 1 (.t 49) (.t 52), none, false, []⟩,
   ⟨none, .store 1 (.t 64) (.t 62), none, false, []⟩] (some [[], [], [], [], [], [3, 4], [], [], [], [7, 8], [6, 7, 8, 9], [6, 7, 8, 9, 10], [], [], [12, 13], [12, 13, 14], [0, 1, 6, 7, 8, 9, 10, 11, 12, 13, 14, 15], [0, 1, 6, 7, 8, 9, 10, 11, 12, 13, 14, 15, 16], [0, 1, 2, 3, 4, 5, 6, 7, 8, 9, 10, 11, 12, 13, 14, 15, 16, 17], [0, 1, 2, 3, 4, 5, 6, 7, 8, 9, 10, 11, 12, 13, 14, 15, 16, 17, 18]])))))
 (.ops [⟨(some 34), .mv (.t 9), none, false, []⟩,
   ⟨(some 35), .bin .sc .add (.t 34) (.c (.int .i64 1)), none, false, []⟩,
   ⟨(some 9), .mv (.t 35), none, false, []⟩] none)))))))) .skip))) }
/- slices.choosePivotOrdered[string] -/
def f123 : AFunc :=
 { np := 3, ntmps := 57, results := [.tmp 6, .tmp 7], frz := false, body :=
 (.seq (.ops [⟨(some 6), .mv (.c (.int .i64 0)), none, false, []⟩,
   ⟨(some 7), .mv (.c (.int .i64 0)), none, false, []⟩] none)
 (.seq (.ops [⟨(some 13), .mv (.t 2), none, false, []⟩,
   ⟨(some 14), .mv (.t 1), none, false, []⟩,
   ⟨(some 15), .bin .sc .sub (.t 13) (.t 14), none, false, []⟩,
   ⟨(some 8), .mv (.t 15), none, false, []⟩] none)
 (.seq (.ops [⟨(some 9), .alloc false [.int .i64 0], none, false, []⟩] none)
 (.seq (.ops [⟨(some 16), .mv (.t 1), none, false, []⟩,
   ⟨(some 17), .mv (.t 8), none, false, []⟩,
   ⟨(some 18), .bin .sc .quo (.t 17) (.c (.int .i64 4)), none, false, []⟩,
   ⟨(some 19), .bin .sc .mul (.t 18) (.c (.int .i64 1)), none, false, []⟩,
   ⟨(some 20), .bin .sc .add (.t 16) (.t 19), none, false, []⟩,
   ⟨(some 10), .mv (.t 20), none, false, []⟩] none)
 (.seq (.ops [⟨(some 21), .mv (.t 1), none, false, []⟩,
   ⟨(some 22), .mv (.t 8), none, false, []⟩,
   ⟨(some 23), .bin .sc .quo (.t 22) (.c (.int .i64 4)), none, false, []⟩,
   ⟨(some 24), .bin .sc .mul (.t 23) (.c (.int .i64 2)), none, false, []⟩,
   ⟨(some 25), .bin .sc .add (.t 21) (.t 24), none, false, []⟩,
   ⟨(some 11), .mv (.t 25), none, false, []⟩] none)
 (.seq (.ops [⟨(some 26), .mv (.t 1), none, false, []⟩,
   ⟨(some 27), .mv (.t 8), none, false, []⟩,
   ⟨(some 28), .bin .sc .quo (.t 27) (.c (.int .i64 4)), none, false, []⟩,
   ⟨(some 29), .bin .sc .mul (.t 28) (.c (.int .i64 3)), none, false, []⟩,
   ⟨(some 30), .bin .sc .add (.t 26) (.t 29), none, false, []⟩,
   ⟨(some 12), .mv (.t 30), none, false, []⟩] none)
 (.seq (.seq (.ops [⟨(some 31), .mv (.t 8), none, false, []⟩,
   ⟨(some 32), .bin .sc .geq (.t 31) (.c (.int .i64 8)), none, false, []⟩] none)
 (.cond (.t 32) (.seq (.seq (.ops [⟨(some 33), .mv (.t 8), none, false, []⟩,
   ⟨(some 34), .bin .sc .geq (.t 33) (.c (.int .i64 50)), none, false, []⟩] none)
 (.cond (.t 34) (.seq (.ops [⟨(some 35), .mv (.t 0), none, false, []⟩,
   ⟨(some 36), .mv (.t 10), none, false, []⟩,
   ⟨(some 37), .call (.c (.func 132 [] [])) [(.t 35), (.t 36), (.t 9)], none, false, []⟩,
   ⟨(some 10), .mv (.t 37), none, false, []⟩] none)
 (.seq (.ops [⟨(some 38), .mv (.t 0), none, false, []⟩,
   ⟨(some 39), .mv (.t 11), none, false, []⟩,
   ⟨(some 40), .call (.c (.func 132 [] [])) [(.t 38), (.t 39), (.t 9)], none, false, []⟩,
   ⟨(some 11), .mv (.t 40), none, false, []⟩] none)
 (.ops [⟨(some 41), .mv (.t 0), none, false, []⟩,
   ⟨(some 42), .mv (.t 12), none, false, []⟩,
   ⟨(some 43), .call (.c (.func 132 [] [])) [(.t 41), (.t 42), (.t 9)], none, false, []⟩,
   ⟨(some 12), .mv (.t 43), none, false, []⟩] none))) .skip))
 (.ops [⟨(some 44), .mv (.t 0), none, false, []⟩,
   ⟨(some 45), .mv (.t 10), none, false, []⟩,
   ⟨(some 46), .mv (.t 11), none, false, []⟩,
   ⟨(some 47), .mv (.t 12), none, false, []⟩,
   ⟨(some 48), .call (.c (.func 133 [] [])) [(.t 44), (.t 45), (.t 46), (.t 47), (.t 9)], none, false, []⟩,
   ⟨(some 11), .mv (.t 48), none, false, []⟩] none)) .skip))
 (.seq (.ops [⟨(some 49), .load false 1 (.t 9), none, false, []⟩] none)
 (.block 0 (.seq (.ops [⟨(some 52), .bin .sc .eql (.t 49) (.c (.int .i64 0)), none, false, []⟩,
   ⟨(some 51), .mv (.t 52), none, false, []⟩] none)
 (.cond (.t 51) (.seq (.ops [⟨(some 53), .mv (.t 11), none, false, []⟩,
   ⟨(some 6), .mv (.t 53), none, false, []⟩,
   ⟨(some 7), .mv (.c (.int .i64 1)), none, false, []⟩] none)
 .ret) (.seq (.ops [⟨(some 55), .bin .sc .eql (.t 49) (.c (.int .i64 12)), none, false, []⟩,
   ⟨(some 54), .mv (.t 55), none, false, []⟩] none)
 (.cond (.t 54) (.seq (.ops [⟨(some 56), .mv (.t 11), none, false, []⟩,
   ⟨(some 6), .mv (.t 56), none, false, []⟩,
   ⟨(some 7), .mv (.c (.int .i64 2)), none, false, []⟩] none)
 .ret) (.seq (.ops [⟨(some 50), .mv (.t 11), none, false, []⟩,
   ⟨(some 6), .mv (.t 50), none, false, []⟩,
   ⟨(some 7), .mv (.c (.int .i64 0)), none, false, []⟩] none)
 .ret)))))))))))))) }
/- slices.reverseRangeOrdered[string] -/
def f124 : AFunc :=
 { np := 3, ntmps := 32, results := [], frz := false, body :=
 (.seq (.ops [⟨(some 8), .mv (.t 1), none, false, []⟩,
   ⟨(some 6), .mv (.t 8), none, false, []⟩] none)
 (.seq (.ops [⟨(some 9), .mv (.t 2), none, false, []⟩,
   ⟨(some 10), .bin .sc .sub (.t 9) (.c (.int .i64 1)), none, false, []⟩,
   ⟨(some 7), .mv (.t 10), none, false, []⟩] none)
 (.block 0 (.loop (.seq (.seq (.ops [⟨(some 11), .mv (.t 6), none, false, []⟩,
   ⟨(some 12), .mv (.t 7), none, false, []⟩,
   ⟨(some 13), .bin .sc .lss (.t 11) (.t 12), none, false, []⟩] none)
 (.cond (.t 13) .skip (.exit 0)))
 (.block 1 (.seq (.ops [⟨(some 14), .mv (.t 0), none, false, []⟩,
   ⟨(some 15), .mv (.t 6), none, false, []⟩,
   ⟨(some 16), .mv (.t 0), none, false, []⟩,
   ⟨(some 17), .mv (.t 7), none, false, []⟩,
   ⟨(some 18), .mv (.t 0), none, false, []⟩,
   ⟨(some 19), .mv (.t 7), none, false, []⟩,
   ⟨(some 20), .iaddr none 1 (.t 18) (.t 19), none, false, []⟩,
   ⟨(some 21), .load false 1 (.t 20), none, false, []⟩,
   ⟨(some 22), .mv (.t 0), none, false, []⟩,
   ⟨(some 23), .mv (.t 6), none, false, []⟩,
   ⟨(some 24), .iaddr none 1 (.t 22) (.t 23), none, false, []⟩,
   ⟨(some 25), .load false 1 (.t 24), none, false, []⟩,
   ⟨(some 26), .iaddr none 1 (.t 14) (.t 15), none, false, []⟩,
   ⟨none, .store 1 (.t 26) (.t 21), none, false, []⟩,
   ⟨(some 27), .iaddr none 1 (.t 16) (.t 17), none, false, []⟩,
   ⟨none, .store 1 (.t 27) (.t 25), none, false, []⟩] (some [[], [], [], [], [], [], [4, 5], [4, 5, 6], [], [], [8, 9], [8, 9, 10], [0, 1, 4, 5, 6, 7, 8, 9, 10, 11], [0, 1, 4, 5, 6, 7, 8, 9, 10, 11, 12], [0, 1, 2, 3, 4, 5, 6, 7, 8, 9, 10, 11, 12, 13], [0, 1, 2, 3, 4, 5, 6, 7, 8, 9, 10, 11, 12, 13, 14]]))
 (.seq (.ops [⟨(some 28), .mv (.t 6), none, false, []⟩,
   ⟨(some 29), .bin .sc .add (.t 28) (.c (.int .i64 1)), none, false, []⟩,
   ⟨(some 6), .mv (.t 29), none, false, []⟩] none)
 (.ops [⟨(some 30), .mv (.t 7), none, false, []⟩,
   ⟨(some 31), .bin .sc .sub (.t 30) (.c (.int .i64 1)), none, false, []⟩,
   ⟨(some 7), .mv (.t 31), none, false, []⟩] none))))))))) }
/- slices.partialInsertionSortOrdered[string] -/
def f125 : AFunc :=
 { np := 3, ntmps := 133, results := [.tmp 6], frz := false, body :=
 (.seq (.ops [⟨(some 6), .mv (.c (.bool false)), none, false, []⟩] none)
 (.seq (.ops [⟨(some 11), .mv (.t 1), none, false, []⟩,
   ⟨(some 12), .bin .sc .add (.t 11) (.c (.int .i64 1)), none, false, []⟩,
   ⟨(some 7), .mv (.t 12), none, false, []⟩] none)
 (.seq (.seq (.ops [⟨(some 8), .mv (.c (.int .i64 0)), none, false, []⟩] none)
 (.block 0 (.loop (.seq (.seq (.ops [⟨(some 13), .mv (.t 8), none, false, []⟩,
   ⟨(some 14), .bin .sc .lss (.t 13) (.c (.int .i64 5)), none, false, []⟩] none)
 (.cond (.t 14) .skip (.exit 0)))
 (.seq (.block 1 (.seq (.block 2 (.loop (.seq (.seq (.ops [⟨(some 17), .mv (.t 7), none, false, []⟩,
   ⟨(some 18), .mv (.t 2), none, false, []⟩,
   ⟨(some 19), .bin .sc .lss (.t 17) (.t 18), none, false, []⟩,
   ⟨(some 20), .mv (.t 19), none, false, []⟩,
   ⟨(some 21), .mv (.t 0), (some (20, true)), false, []⟩,
   ⟨(some 22), .mv (.t 7), (some (20, true)), false, []⟩,
   ⟨(some 23), .iaddr none 1 (.t 21) (.t 22), (some (20, true)), false, []⟩,
   ⟨(some 24), .load false 1 (.t 23), (some (20, true)), false, []⟩,
   ⟨(some 25), .mv (.t 0), (some (20, true)), false, []⟩,
   ⟨(some 26), .mv (.t 7), (some (20, true)), false, []⟩,
   ⟨(some 27), .bin .sc .sub (.t 26) (.c (.int .i64 1)), (some (20, true)), false, []⟩,
   ⟨(some 28), .iaddr none 1 (.t 25) (.t 27), (some (20, true)), false, []⟩,
   ⟨(some 29), .load false 1 (.t 28), (some (20, true)), false, []⟩,
   ⟨(some 30), .call (.c (.func 126 [] [])) [(.t 24), (.t 29)], (some (20, true)), false, []⟩,
   ⟨(some 31), .not (.t 30), (some (20, true)), false, []⟩,
   ⟨(some 32), .pick (.t 20) (.t 31) (.c (.bool false)), none, false, []⟩] (some [[], [], [0, 1], [0, 1, 2], [0, 1, 2, 3], [0, 1, 2, 3], [0, 1, 2, 3, 4, 5], [0, 1, 2, 3, 4, 5, 6], [0, 1, 2, 3], [0, 1, 2, 3], [0, 1, 2, 3, 9], [0, 1, 2, 3, 8, 9, 10], [0, 1, 2, 3, 8, 9, 10, 11], [0, 1, 2, 3, 4, 5, 6, 7, 8, 9, 10, 11, 12], [0, 1, 2, 3, 4, 5, 6, 7, 8, 9, 10, 11, 12, 13], [0, 1, 2, 3, 4, 5, 6, 7, 8, 9, 10, 11, 12, 13, 14]]))
 (.cond (.t 32) .skip (.exit 2)))
 (.block 3 (.ops [⟨(some 33), .mv (.t 7), none, false, []⟩,
   ⟨(some 34), .bin .sc .add (.t 33) (.c (.int .i64 1)), none, false, []⟩,
   ⟨(some 7), .mv (.t 34), none, false, []⟩] none)))))
 (.seq (.seq (.ops [⟨(some 35), .mv (.t 7), none, false, []⟩,
   ⟨(some 36), .mv (.t 2), none, false, []⟩,
   ⟨(some 37), .bin .sc .eql (.t 35) (.t 36), none, false, []⟩] none)
 (.cond (.t 37) (.seq (.ops [⟨(some 6), .mv (.c (.bool true)), none, false, []⟩] none)
 .ret) .skip))
 (.seq (.seq (.ops [⟨(some 38), .mv (.t 2), none, false, []⟩,
   ⟨(some 39), .mv (.t 1), none, false, []⟩,
   ⟨(some 40), .bin .sc .sub (.t 38) (.t 39), none, false, []⟩,
   ⟨(some 41), .bin .sc .lss (.t 40) (.c (.int .i64 50)), none, false, []⟩] none)
 (.cond (.t 41) (.seq (.ops [⟨(some 6), .mv (.c (.bool false)), none, false, []⟩] none)
 .ret) .skip))
 (.seq (.ops [⟨(some 42), .mv (.t 0), none, false, []⟩,
   ⟨(some 43), .mv (.t 7), none, false, []⟩,
   ⟨(some 44), .mv (.t 0), none, false, []⟩,
   ⟨(some 45), .mv (.t 7), none, false, []⟩,
   ⟨(some 46), .bin .sc .sub (.t 45) (.c (.int .i64 1)), none, false, []⟩,
   ⟨(some 47), .mv (.t 0), none, false, []⟩,
   ⟨(some 48), .mv (.t 7), none, false, []⟩,
   ⟨(some 49), .bin .sc .sub (.t 48) (.c (.int .i64 1)), none, false, []⟩,
   ⟨(some 50), .iaddr none 1 (.t 47) (.t 49), none, false, []⟩,
   ⟨(some 51), .load false 1 (.t 50), none, false, []⟩,
   ⟨(some 52), .mv (.t 0), none, false, []⟩,
   ⟨(some 53), .mv (.t 7), none, false, []⟩,
   ⟨(some 54), .iaddr none 1 (.t 52) (.t 53), none, false, []⟩,
   ⟨(some 55), .load false 1 (.t 54), none, false, []⟩,
   ⟨(some 56), .iaddr none 1 (.t 42) (.t 43), none, false, []⟩,
   ⟨none, .store 1 (.t 56) (.t 51), none, false, []⟩,
   ⟨(some 57), .iaddr none 1 (.t 44) (.t 46), none, false, []⟩,
   ⟨none, .store 1 (.t 57) (.t 55), none, false, []⟩] (some [[], [], [], [], [3], [], [], [6], [5, 6, 7], [5, 6, 7, 8], [], [], [10, 11], [10, 11, 12], [0, 1, 5, 6, 7, 8, 9, 10, 11, 12, 13], [0, 1, 5, 6, 7, 8, 9, 10, 11, 12, 13, 14], [0, 1, 2, 3, 4, 5, 6, 7, 8, 9, 10, 11, 12, 13, 14, 15], [0, 1, 2, 3, 4, 5, 6, 7, 8, 9, 10, 11, 12, 13, 14, 15, 16]]))
 (.seq (.seq (.ops [⟨(some 58), .mv (.t 7), none, false, []⟩,
   ⟨(some 59), .mv (.t 1), none, false, []⟩,
   ⟨(some 60), .bin .sc .sub (.t 58) (.t 59), none, false, []⟩,
   ⟨(some 61), .bin .sc .geq (.t 60) (.c (.int .i64 2)), none, false, []⟩] none)
 (.cond (.t 61) (.seq (.ops [⟨(some 62), .mv (.t 7), none, false, []⟩,
   ⟨(some 63), .bin .sc .sub (.t 62) (.c (.int .i64 1)), none, false, []⟩,
   ⟨(some 9), .mv (.t 63), none, false, []⟩] none)
 (.block 4 (.loop (.seq (.seq (.ops [⟨(some 64), .mv (.t 9), none, false, []⟩,
   ⟨(some 65), .bin .sc .geq (.t 64) (.c (.int .i64 1)), none, false, []⟩] none)
 (.cond (.t 65) .skip (.exit 4)))
 (.seq (.block 5 (.seq (.seq (.ops [⟨(some 68), .mv (.t 0), none, false, []⟩,
   ⟨(some 69), .mv (.t 9), none, false, []⟩,
   ⟨(some 70), .iaddr none 1 (.t 68) (.t 69), none, false, []⟩,
   ⟨(some 71), .load false 1 (.t 70), none, false, []⟩,
   ⟨(some 72), .mv (.t 0), none, false, []⟩,
   ⟨(some 73), .mv (.t 9), none, false, []⟩,
   ⟨(some 74), .bin .sc .sub (.t 73) (.c (.int .i64 1)), none, false, []⟩,
   ⟨(some 75), .iaddr none 1 (.t 72) (.t 74), none, false, []⟩,
   ⟨(some 76), .load false 1 (.t 75), none, false, []⟩,
   ⟨(some 77), .call (.c (.func 126 [] [])) [(.t 71), (.t 76)], none, false, []⟩,
   ⟨(some 78), .not (.t 77), none, false, []⟩] (some [[], [], [0, 1], [0, 1, 2], [], [], [5], [4, 5, 6], [4, 5, 6, 7], [0, 1, 2, 3, 4, 5, 6, 7, 8], [0, 1, 2, 3, 4, 5, 6, 7, 8, 9]]))
 (.cond (.t 78) (.exit 4) .skip))
 (.ops [⟨(some 79), .mv (.t 0), none, false, []⟩,
   ⟨(some 80), .mv (.t 9), none, false, []⟩,
   ⟨(some 81), .mv (.t 0), none, false, []⟩,
   ⟨(some 82), .mv (.t 9), none, false, []⟩,
   ⟨(some 83), .bin .sc .sub (.t 82) (.c (.int .i64 1)), none, false, []⟩,
   ⟨(some 84), .mv (.t 0), none, false, []⟩,
   ⟨(some 85), .mv (.t 9), none, false, []⟩,
   ⟨(some 86), .bin .sc .sub (.t 85) (.c (.int .i64 1)), none, false, []⟩,
   ⟨(some 87), .iaddr none 1 (.t 84) (.t 86), none, false, []⟩,
   ⟨(some 88), .load false 1 (.t 87), none, false, []⟩,
   ⟨(some 89), .mv (.t 0), none, false, []⟩,
   ⟨(some 90), .mv (.t 9), none, false, []⟩,
   ⟨(some 91), .iaddr none 1 (.t 89) (.t 90), none, false, []⟩,
   ⟨(some 92), .load false 1 (.t 91), none, false, []⟩,
   ⟨(some 93), .iaddr none 1 (.t 79) (.t 80), none, false, []⟩,
   ⟨none, .store 1 (.t 93) (.t 88), none, false, []⟩,
   ⟨(some 94), .iaddr none 1 (.t 81) (.t 83), none, false, []⟩,
   ⟨none, .store 1 (.t 94) (.t 92), none, false, []⟩] (some [[], [], [], [], [3], [], [], [6], [5, 6, 7], [5, 6, 7, 8], [], [], [10, 11], [10, 11, 12], [0, 1, 5, 6, 7, 8, 9, 10, 11, 12, 13], [0, 1, 5, 6, 7, 8, 9, 10, 11, 12, 13, 14], [0, 1, 2, 3, 4, 5, 6, 7, 8, 9, 10, 11, 12, 13, 14, 15], [0, 1, 2, 3, 4, 5, 6, 7, 8, 9, 10, 11, 12, 13, 14, 15, 16]]))))
 (.ops [⟨(some 66), .mv (.t 9), none, false, []⟩,
   ⟨(some 67), .bin .sc .sub (.t 66) (.c (.int .i64 1)), none, false, []⟩,
   ⟨(some 9), .mv (.t 67), none, false, []⟩] none)))))) .skip))
 (.seq (.ops [⟨(some 95), .mv (.t 2), none, false, []⟩,
   ⟨(some 96), .mv (.t 7), none, false, []⟩,
   ⟨(some 97), .bin .sc .sub (.t 95) (.t 96), none, false, []⟩,
   ⟨(some 98), .bin .sc .geq (.t 97) (.c (.int .i64 2)), none, false, []⟩] none)
 (.cond (.t 98) (.seq (.ops [⟨(some 99), .mv (.t 7), none, false, []⟩,
   ⟨(some 100), .bin .sc .add (.t 99) (.c (.int .i64 1)), none, false, []⟩,
   ⟨(some 10), .mv (.t 100), none, false, []⟩] none)
 (.block 6 (.loop (.seq (.seq (.ops [⟨(some 101), .mv (.t 10), none, false, []⟩,
   ⟨(some 102), .mv (.t 2), none, false, []⟩,
   ⟨(some 103), .bin .sc .lss (.t 101) (.t 102), none, false, []⟩] none)
 (.cond (.t 103) .skip (.exit 6)))
 (.seq (.block 7 (.seq (.seq (.ops [⟨(some 106), .mv (.t 0), none, false, []⟩,
   ⟨(some 107), .mv (.t 10), none, false, []⟩,
   ⟨(some 108), .iaddr none 1 (.t 106) (.t 107), none, false, []⟩,
   ⟨(some 109), .load false 1 (.t 108), none, false, []⟩,
   ⟨(some 110), .mv (.t 0), none, false, []⟩,
   ⟨(some 111), .mv (.t 10), none, false, []⟩,
   ⟨(some 112), .bin .sc .sub (.t 111) (.c (.int .i64 1)), none, false, []⟩,
   ⟨(some 113), .iaddr none 1 (.t 110) (.t 112), none, false, []⟩,
   ⟨(some 114), .load false 1 (.t 113), none, false, []⟩,
   ⟨(some 115), .call (.c (.func 126 [] [])) [(.t 109), (.t 114)], none, false, []⟩,
   ⟨(some 116), .not (.t 115), none, false, []⟩] (some [[], [], [0, 1], [0, 1, 2], [], [], [5], [4, 5, 6], [4, 5, 6, 7], [0, 1, 2, 3, 4, 5, 6, 7, 8], [0, 1, 2, 3, 4, 5, 6, 7, 8, 9]]))
 (.cond (.t 116) (.exit 6) .skip))
 (.ops [⟨(some 117), .mv (.t 0), none, false, []⟩,
   ⟨(some 118), .mv (.t 10), none, false, []⟩,
   ⟨(some 119), .mv (.t 0), none, false, []⟩,
   ⟨(some 120), .mv (.t 10), none, false, []⟩,
   ⟨(some 121), .bin .sc .sub (.t 120) (.c (.int .i64 1)), none, false, []⟩,
   ⟨(some 122), .mv (.t 0), none, false, []⟩,
   ⟨(some 123), .mv (.t 10), none, false, []⟩,
   ⟨(some 124), .bin .sc .sub (.t 123) (.c (.int .i64 1)), none, false, []⟩,
   ⟨(some 125), .iaddr none 1 (.t 122) (.t 124), none, false, []⟩,
   ⟨(some 126), .load false 1 (.t 125), none, false, []⟩,
   ⟨(some 127), .mv (.t 0), none, false, []⟩,
   ⟨(some 128), .mv (.t 10), none, false, []⟩,
   ⟨(some 129), .iaddr none 1 (.t 127) (.t 128), none, false, []⟩,
   ⟨(some 130), .load false 1 (.t 129), none, false, []⟩,
   ⟨(some 131), .iaddr none 1 (.t 117) (.t 118), none, false, []⟩,
   ⟨none, .store 1 (.t 131) (.t 126), none, false, []⟩,
   ⟨(some 132), .iaddr none 1 (.t 119) (.t 121), none, false, []⟩,
   ⟨none, .store 1 (.t 132) (.t 130), none, false, []⟩] (some [[], [], [], [], [3], [], [], [6], [5, 6, 7], [5, 6, 7, 8], [], [], [10, 11], [10, 11, 12], [0, 1, 5, 6, 7, 8, 9, 10, 11, 12, 13], [0, 1, 5, 6, 7, 8, 9, 10, 11, 12, 13, 14], [0, 1, 2, 3, 4, 5, 6, 7, 8, 9, 10, 11, 12, 13, 14, 15], [0, 1, 2, 3, 4, 5, 6, 7, 8, 9, 10, 11, 12, 13, 14, 15, 16]]))))
 (.ops [⟨(some 104), .mv (.t 10), none, false, []⟩,
   ⟨(some 105), .bin .sc .add (.t 104) (.c (.int .i64 1)), none, false, []⟩,
   ⟨(some 10), .mv (.t 105), none, false, []⟩] none)))))) .skip))))))))
 (.ops [⟨(some 15), .mv (.t 8), none, false, []⟩,
   ⟨(some 16), .bin .sc .add (.t 15) (.c (.int .i64 1)), none, false, []⟩,
   ⟨(some 8), .mv (.t 16), none, false, []⟩] none))))))
 (.seq (.ops [⟨(some 6), .mv (.c (.bool false)), none, false, []⟩] none)
 .ret)))) }
/- cmp.Less[string] -/
def f126 : AFunc :=
 { np := 2, ntmps := 17, results := [.tmp 4], frz := false, body :=
 (.seq (.ops [⟨(some 4), .mv (.c (.bool false)), none, false, []⟩] none)
 (.seq (.ops [⟨(some 5), .mv (.t 0), none, false, []⟩,
   ⟨(some 6), .call (.c (.func 134 [] [])) [(.t 5)], none, false, []⟩,
   ⟨(some 7), .mv (.t 6), none, false, []⟩,
   ⟨(some 8), .mv (.t 1), (some (7, true)), false, []⟩,
   ⟨(some 9), .call (.c (.func 134 [] [])) [(.t 8)], (some (7, true)), false, []⟩,
   ⟨(some 10), .not (.t 9), (some (7, true)), false, []⟩,
   ⟨(some 11), .pick (.t 7) (.t 10) (.c (.bool false)), none, false, []⟩,
   ⟨(some 12), .mv (.t 11), none, false, []⟩,
   ⟨(some 13), .mv (.t 0), (some (12, false)), false, []⟩,
   ⟨(some 14), .mv (.t 1), (some (12, false)), false, []⟩,
   ⟨(some 15), .bin .sc .lss (.t 13) (.t 14), (some (12, false)), false, []⟩,
   ⟨(some 16), .pick (.t 12) (.c (.bool true)) (.t 15), none, false, []⟩,
   ⟨(some 4), .mv (.t 16), none, false, []⟩] none)
 .ret)) }
/- slices.partitionEqualOrdered[string] -/
def f127 : AFunc :=
 { np := 4, ntmps := 84, results := [.tmp 8], frz := false, body :=
 (.seq (.ops [⟨(some 8), .mv (.c (.int .i64 0)), none, false, []⟩] none)
 (.seq (.ops [⟨(some 11), .mv (.t 0), none, false, []⟩,
   ⟨(some 12), .mv (.t 1), none, false, []⟩,
   ⟨(some 13), .mv (.t 0), none, false, []⟩,
   ⟨(some 14), .mv (.t 3), none, false, []⟩,
   ⟨(some 15), .mv (.t 0), none, false, []⟩,
   ⟨(some 16), .mv (.t 3), none, false, []⟩,
   ⟨(some 17), .iaddr none 1 (.t 15) (.t 16), none, false, []⟩,
   ⟨(some 18), .load false 1 (.t 17), none, false, []⟩,
   ⟨(some 19), .mv (.t 0), none, false, []⟩,
   ⟨(some 20), .mv (.t 1), none, false, []⟩,
   ⟨(some 21), .iaddr none 1 (.t 19) (.t 20), none, false, []⟩,
   ⟨(some 22), .load false 1 (.t 21), none, false, []⟩,
   ⟨(some 23), .iaddr none 1 (.t 11) (.t 12), none, false, []⟩,
   ⟨none, .store 1 (.t 23) (.t 18), none, false, []⟩,
   ⟨(some 24), .iaddr none 1 (.t 13) (.t 14), none, false, []⟩,
   ⟨none, .store 1 (.t 24) (.t 22), none, false, []⟩] (some [[], [], [], [], [], [], [4, 5], [4, 5, 6], [], [], [8, 9], [8, 9, 10], [0, 1, 4, 5, 6, 7, 8, 9, 10, 11], [0, 1, 4, 5, 6, 7, 8, 9, 10, 11, 12], [0, 1, 2, 3, 4, 5, 6, 7, 8, 9, 10, 11, 12, 13], [0, 1, 2, 3, 4, 5, 6, 7, 8, 9, 10, 11, 12, 13, 14]]))
 (.seq (.ops [⟨(some 25), .mv (.t 1), none, false, []⟩,
   ⟨(some 26), .bin .sc .add (.t 25) (.c (.int .i64 1)), none, false, []⟩,
   ⟨(some 27), .mv (.t 2), none, false, []⟩,
   ⟨(some 28), .bin .sc .sub (.t 27) (.c (.int .i64 1)), none, false, []⟩,
   ⟨(some 9), .mv (.t 26), none, false, []⟩,
   ⟨(some 10), .mv (.t 28), none, false, []⟩] none)
 (.seq (.block 0 (.loop (.block 1 (.seq (.block 2 (.loop (.seq (.seq (.ops [⟨(some 29), .mv (.t 9), none, false, []⟩,
   ⟨(some 30), .mv (.t 10), none, false, []⟩,
   ⟨(some 31), .bin .sc .leq (.t 29) (.t 30), none, false, []⟩,
   ⟨(some 32), .mv (.t 31), none, false, []⟩,
   ⟨(some 33), .mv (.t 0), (some (32, true)), false, []⟩,
   ⟨(some 34), .mv (.t 1), (some (32, true)), false, []⟩,
   ⟨(some 35), .iaddr none 1 (.t 33) (.t 34), (some (32, true)), false, []⟩,
   ⟨(some 36), .load false 1 (.t 35), (some (32, true)), false, []⟩,
   ⟨(some 37), .mv (.t 0), (some (32, true)), false, []⟩,
   ⟨(some 38), .mv (.t 9), (some (32, true)), false, []⟩,
   ⟨(some 39), .iaddr none 1 (.t 37) (.t 38), (some (32, true)), false, []⟩,
   ⟨(some 40), .load false 1 (.t 39), (some (32, true)), false, []⟩,
   ⟨(some 41), .call (.c (.func 126 [] [])) [(.t 36), (.t 40)], (some (32, true)), false, []⟩,
   ⟨(some 42), .not (.t 41), (some (32, true)), false, []⟩,
   ⟨(some 43), .pick (.t 32) (.t 42) (.c (.bool false)), none, false, []⟩] (some [[], [], [0, 1], [0, 1, 2], [0, 1, 2, 3], [0, 1, 2, 3], [0, 1, 2, 3, 4, 5], [0, 1, 2, 3, 4, 5, 6], [0, 1, 2, 3], [0, 1, 2, 3], [0, 1, 2, 3, 8, 9], [0, 1, 2, 3, 8, 9, 10], [0, 1, 2, 3, 4, 5, 6, 7, 8, 9, 10, 11], [0, 1, 2, 3, 4, 5, 6, 7, 8, 9, 10, 11, 12], [0, 1, 2, 3, 4, 5, 6, 7, 8, 9, 10, 11, 12, 13]]))
 (.cond (.t 43) .skip (.exit 2)))
 (.block 3 (.ops [⟨(some 44), .mv (.t 9), none, false, []⟩,
   ⟨(some 45), .bin .sc .add (.t 44) (.c (.int .i64 1)), none, false, []⟩,
   ⟨(some 9), .mv (.t 45), none, false, []⟩] none)))))
 (.seq (.block 4 (.loop (.seq (.seq (.ops [⟨(some 46), .mv (.t 9), none, false, []⟩,
   ⟨(some 47), .mv (.t 10), none, false, []⟩,
   ⟨(some 48), .bin .sc .leq (.t 46) (.t 47), none, false, []⟩,
   ⟨(some 49), .mv (.t 48), none, false, []⟩,
   ⟨(some 50), .mv (.t 0), (some (49, true)), false, []⟩,
   ⟨(some 51), .mv (.t 1), (some (49, true)), false, []⟩,
   ⟨(some 52), .iaddr none 1 (.t 50) (.t 51), (some (49, true)), false, []⟩,
   ⟨(some 53), .load false 1 (.t 52), (some (49, true)), false, []⟩,
   ⟨(some 54), .mv (.t 0), (some (49, true)), false, []⟩,
   ⟨(some 55), .mv (.t 10), (some (49, true)), false, []⟩,
   ⟨(some 56), .iaddr none 1 (.t 54) (.t 55), (some (49, true)), false, []⟩,
   ⟨(some 57), .load false 1 (.t 56), (some (49, true)), false, []⟩,
   ⟨(some 58), .call (.c (.func 126 [] [])) [(.t 53), (.t 57)], (some (49, true)), false, []⟩,
   ⟨(some 59), .pick (.t 49) (.t 58) (.c (.bool false)), none, false, []⟩] (some [[], [], [0, 1], [0, 1, 2], [0, 1, 2, 3], [0, 1, 2, 3], [0, 1, 2, 3, 4, 5], [0, 1, 2, 3, 4, 5, 6], [0, 1, 2, 3], [0, 1, 2, 3], [0, 1, 2, 3, 8, 9], [0, 1, 2, 3, 8, 9, 10], [0, 1, 2, 3, 4, 5, 6, 7, 8, 9, 10, 11], [0, 1, 2, 3, 4, 5, 6, 7, 8, 9, 10, 11, 12]]))
 (.cond (.t 59) .skip (.exit 4)))
 (.block 5 (.ops [⟨(some 60), .mv (.t 10), none, false, []⟩,
   ⟨(some 61), .bin .sc .sub (.t 60) (.c (.int .i64 1)), none, false, []⟩,
   ⟨(some 10), .mv (.t 61), none, false, []⟩] none)))))
 (.seq (.seq (.ops [⟨(some 62), .mv (.t 9), none, false, []⟩,
   ⟨(some 63), .mv (.t 10), none, false, []⟩,
   ⟨(some 64), .bin .sc .gtr (.t 62) (.t 63), none, false, []⟩] none)
 (.cond (.t 64) (.exit 0) .skip))
 (.seq (.ops [⟨(some 65), .mv (.t 0), none, false, []⟩,
   ⟨(some 66), .mv (.t 9), none, false, []⟩,
   ⟨(some 67), .mv (.t 0), none, false, []⟩,
   ⟨(some 68), .mv (.t 10), none, false, []⟩,
   ⟨(some 69), .mv (.t 0), none, false, []⟩,
   ⟨(some 70), .mv (.t 10), none, false, []⟩,
   ⟨(some 71), .iaddr none 1 (.t 69) (.t 70), none, false, []⟩,
   ⟨(some 72), .load false 1 (.t 71), none, false, []⟩,
   ⟨(some 73), .mv (.t 0), none, false, []⟩,
   ⟨(some 74), .mv (.t 9), none, false, []⟩,
   ⟨(some 75), .iaddr none 1 (.t 73) (.t 74), none, false, []⟩,
   ⟨(some 76), .load false 1 (.t 75), none, false, []⟩,
   ⟨(some 77), .iaddr none 1 (.t 65) (.t 66), none, false, []⟩,
   ⟨none, .store 1 (.t 77) (.t 72), none, false, []⟩,
   ⟨(some 78), .iaddr none 1 (.t 67) (.t 68), none, false, []⟩,
   ⟨none, .store 1 (.t 78) (.t 76), none, false, []⟩] (some [[], [], [], [], [], [], [4, 5], [4, 5, 6], [], [], [8, 9], [8, 9, 10], [0, 1, 4, 5, 6, 7, 8, 9, 10, 11], [0, 1, 4, 5, 6, 7, 8, 9, 10, 11, 12], [0, 1, 2, 3, 4, 5, 6, 7, 8, 9, 10, 11, 12, 13], [0, 1, 2, 3, 4, 5, 6, 7, 8, 9, 10, 11, 12, 13, 14]]))
 (.seq (.ops [⟨(some 79), .mv (.t 9), none, false, []⟩,
   ⟨(some 80), .bin .sc .add (.t 79) (.c (.int .i64 1)), none, false, []⟩,
   ⟨(some 9), .mv (.t 80), none, false, []⟩] none)
 (.ops [⟨(some 81), .mv (.t 10), none, false, []⟩,
   ⟨(some 82), .bin .sc .sub (.t 81) (.c (.int .i64 1)), none, false, []⟩,
   ⟨(some 10), .mv (.t 82), none, false, []⟩] none)))))))))
 (.seq (.ops [⟨(some 83), .mv (.t 9), none, false, []⟩,
   ⟨(some 8), .mv (.t 83), none, false, []⟩] none)
 .ret))))) }
/- slices.partitionOrdered[string] -/
def f128 : AFunc :=
 { np := 4, ntmps := 168, results := [.tmp 8, .tmp 9], frz := false, body :=
 (.seq (.ops [⟨(some 8), .mv (.c (.int .i64 0)), none, false, []⟩,
   ⟨(some 9), .mv (.c (.bool false)), none, false, []⟩] none)
 (.seq (.ops [⟨(some 12), .mv (.t 0), none, false, []⟩,
   ⟨(some 13), .mv (.t 1), none, false, []⟩,
   ⟨(some 14), .mv (.t 0), none, false, []⟩,
   ⟨(some 15), .mv (.t 3), none, false, []⟩,
   ⟨(some 16), .mv (.t 0), none, false, []⟩,
   ⟨(some 17), .mv (.t 3), none, false, []⟩,
   ⟨(some 18), .iaddr none 1 (.t 16) (.t 17), none, false, []⟩,
   ⟨(some 19), .load false 1 (.t 18), none, false, []⟩,
   ⟨(some 20), .mv (.t 0), none, false, []⟩,
   ⟨(some 21), .mv (.t 1), none, false, []⟩,
   ⟨(some 22), .iaddr none 1 (.t 20) (.t 21), none, false, []⟩,
   ⟨(some 23), .load false 1 (.t 22), none, false, []⟩,
   ⟨(some 24), .iaddr none 1 (.t 12) (.t 13), none, false, []⟩,
   ⟨none, .store 1 (.t 24) (.t 19), none, false, []⟩,
   ⟨(some 25), .iaddr none 1 (.t 14) (.t 15), none, false, []⟩,
   ⟨none, .store 1 (.t 25) (.t 23), none, false, []⟩] (some [[], [], [], [], [], [], [4, 5], [4, 5, 6], [], [], [8, 9], [8, 9, 10], [0, 1, 4, 5, 6, 7, 8, 9, 10, 11], [0, 1, 4, 5, 6, 7, 8, 9, 10, 11, 12], [0, 1, 2, 3, 4, 5, 6, 7, 8, 9, 10, 11, 12, 13], [0, 1, 2, 3, 4, 5, 6, 7, 8, 9, 10, 11, 12, 13, 14]]))
 (.seq (.ops [⟨(some 26), .mv (.t 1), none, false, []⟩,
   ⟨(some 27), .bin .sc .add (.t 26) (.c (.int .i64 1)), none, false, []⟩,
   ⟨(some 28), .mv (.t 2), none, false, []⟩,
   ⟨(some 29), .bin .sc .sub (.t 28) (.c (.int .i64 1)), none, false, []⟩,
   ⟨(some 10), .mv (.t 27), none, false, []⟩,
   ⟨(some 11), .mv (.t 29), none, false, []⟩] none)
 (.seq (.block 0 (.loop (.seq (.seq (.ops [⟨(some 30), .mv (.t 10), none, false, []⟩,
   ⟨(some 31), .mv (.t 11), none, false, []⟩,
   ⟨(some 32), .bin .sc .leq (.t 30) (.t 31), none, false, []⟩,
   ⟨(some 33), .mv (.t 32), none, false, []⟩,
   ⟨(some 34), .mv (.t 0), (some (33, true)), false, []⟩,
   ⟨(some 35), .mv (.t 10), (some (33, true)), false, []⟩,
   ⟨(some 36), .iaddr none 1 (.t 34) (.t 35), (some (33, true)), false, []⟩,
   ⟨(some 37), .load false 1 (.t 36), (some (33, true)), false, []⟩,
   ⟨(some 38), .mv (.t 0), (some (33, true)), false, []⟩,
   ⟨(some 39), .mv (.t 1), (some (33, true)), false, []⟩,
   ⟨(some 40), .iaddr none 1 (.t 38) (.t 39), (some (33, true)), false, []⟩,
   ⟨(some 41), .load false 1 (.t 40), (some (33, true)), false, []⟩,
   ⟨(some 42), .call (.c (.func 126 [] [])) [(.t 37), (.t 41)], (some (33, true)), false, []⟩,
   ⟨(some 43), .pick (.t 33) (.t 42) (.c (.bool false)), none, false, []⟩] (some [[], [], [0, 1], [0, 1, 2], [0, 1, 2, 3], [0, 1, 2, 3], [0, 1, 2, 3, 4, 5], [0, 1, 2, 3, 4, 5, 6], [0, 1, 2, 3], [0, 1, 2, 3], [0, 1, 2, 3, 8, 9], [0, 1, 2, 3, 8, 9, 10], [0, 1, 2, 3, 4, 5, 6, 7, 8, 9, 10, 11], [0, 1, 2, 3, 4, 5, 6, 7, 8, 9, 10, 11, 12]]))
 (.cond (.t 43) .skip (.exit 0)))
 (.block 1 (.ops [⟨(some 44), .mv (.t 10), none, false, []⟩,
   ⟨(some 45), .bin .sc .add (.t 44) (.c (.int .i64 1)), none, false, []⟩,
   ⟨(some 10), .mv (.t 45), none, false, []⟩] none)))))
 (.seq (.block 2 (.loop (.seq (.seq (.ops [⟨(some 46), .mv (.t 10), none, false, []⟩,
   ⟨(some 47), .mv (.t 11), none, false, []⟩,
   ⟨(some 48), .bin .sc .leq (.t 46) (.t 47), none, false, []⟩,
   ⟨(some 49), .mv (.t 48), none, false, []⟩,
   ⟨(some 50), .mv (.t 0), (some (49, true)), false, []⟩,
   ⟨(some 51), .mv (.t 11), (some (49, true)), false, []⟩,
   ⟨(some 52), .iaddr none 1 (.t 50) (.t 51), (some (49, true)), false, []⟩,
   ⟨(some 53), .load false 1 (.t 52), (some (49, true)), false, []⟩,
   ⟨(some 54), .mv (.t 0), (some (49, true)), false, []⟩,
   ⟨(some 55), .mv (.t 1), (some (49, true)), false, []⟩,
   ⟨(some 56), .iaddr none 1 (.t 54) (.t 55), (some (49, true)), false, []⟩,
   ⟨(some 57), .load false 1 (.t 56), (some (49, true)), false, []⟩,
   ⟨(some 58), .call (.c (.func 126 [] [])) [(.t 53), (.t 57)], (some (49, true)), false, []⟩,
   ⟨(some 59), .not (.t 58), (some (49, true)), false, []⟩,
   ⟨(some 60), .pick (.t 49) (.t 59) (.c (.bool false)), none, false, []⟩] (some [[], [], [0, 1], [0, 1, 2], [0, 1, 2, 3], [0, 1, 2, 3], [0, 1, 2, 3, 4, 5], [0, 1, 2, 3, 4, 5, 6], [0, 1, 2, 3], [0, 1, 2, 3], [0, 1, 2, 3, 8, 9], [0, 1, 2, 3, 8, 9, 10], [0, 1, 2, 3, 4, 5, 6, 7, 8, 9, 10, 11], [0, 1, 2, 3, 4, 5, 6, 7, 8, 9, 10, 11, 12], [0, 1, 2, 3, 4, 5, 6, 7, 8, 9, 10, 11, 12, 13]]))
 (.cond (.t 60) .skip (.exit 2)))
 (.block 3 (.ops [⟨(some 61), .mv (.t 11), none, false, []⟩,
   ⟨(some 62), .bin .sc .sub (.t 61) (.c (.int .i64 1)), none, false, []⟩,
   ⟨(some 11), .mv (.t 62), none, false, []⟩] none)))))
 (.seq (.seq (.ops [⟨(some 63), .mv (.t 10), none, false, []⟩,
   ⟨(some 64), .mv (.t 11), none, false, []⟩,
   ⟨(some 65), .bin .sc .gtr (.t 63) (.t 64), none, false, []⟩] none)
 (.cond (.t 65) (.seq (.ops [⟨(some 66), .mv (.t 0), none, false, []⟩,
   ⟨(some 67), .mv (.t 11), none, false, []⟩,
   ⟨(some 68), .mv (.t 0), none, false, []⟩,
   ⟨(some 69), .mv (.t 1), none, false, []⟩,
   ⟨(some 70), .mv (.t 0), none, false, []⟩,
   ⟨(some 71), .mv (.t 1), none, false, []⟩,
   ⟨(some 72), .iaddr none 1 (.t 70) (.t 71), none, false, []⟩,
   ⟨(some 73), .load false 1 (.t 72), none, false, []⟩,
   ⟨(some 74), .mv (.t 0), none, false, []⟩,
   ⟨(some 75), .mv (.t 11), none, false, []⟩,
   ⟨(some 76), .iaddr none 1 (.t 74) (.t 75), none, false, []⟩,
   ⟨(some 77), .load false 1 (.t 76), none, false, []⟩,
   ⟨(some 78), .iaddr none 1 (.t 66) (.t 67), none, false, []⟩,
   ⟨none, .store 1 (.t 78) (.t 73), none, false, []⟩,
   ⟨(some 79), .iaddr none 1 (.t 68) (.t 69), none, false, []⟩,
   ⟨none, .store 1 (.t 79) (.t 77), none, false, []⟩] (some [[], [], [], [], [], [], [4, 5], [4, 5, 6], [], [], [8, 9], [8, 9, 10], [0, 1, 4, 5, 6, 7, 8, 9, 10, 11], [0, 1, 4, 5, 6, 7, 8, 9, 10, 11, 12], [0, 1, 2, 3, 4, 5, 6, 7, 8, 9, 10, 11, 12, 13], [0, 1, 2, 3, 4, 5, 6, 7, 8, 9, 10, 11, 12, 13, 14]]))
 (.seq (.ops [⟨(some 80), .mv (.t 11), none, false, []⟩,
   ⟨(some 8), .mv (.t 80), none, false, []⟩,
   ⟨(some 9), .mv (.c (.bool true)), none, false, []⟩] none)
 .ret)) .skip))
 (.seq (.ops [⟨(some 81), .mv (.t 0), none, false, []⟩,
   ⟨(some 82), .mv (.t 10), none, false, []⟩,
   ⟨(some 83), .mv (.t 0), none, false, []⟩,
   ⟨(some 84), .mv (.t 11), none, false, []⟩,
   ⟨(some 85), .mv (.t 0), none, false, []⟩,
   ⟨(some 86), .mv (.t 11), none, false, []⟩,
   ⟨(some 87), .iaddr none 1 (.t 85) (.t 86), none, false, []⟩,
   ⟨(some 88), .load false 1 (.t 87), none, false, []⟩,
   ⟨(some 89), .mv (.t 0), none, false, []⟩,
   ⟨(some 90), .mv (.t 10), none, false, []⟩,
   ⟨(some 91), .iaddr none 1 (.t 89) (.t 90), none, false, []⟩,
   ⟨(some 92), .load false 1 (.t 91), none, false, []⟩,
   ⟨(some 93), .iaddr none 1 (.t 81) (.t 82), none, false, []⟩,
   ⟨none, .store 1 (.t 93) (.t 88), none, false, []⟩,
   ⟨(some 94), .iaddr none 1 (.t 83) (.t 84), none, false, []⟩,
   ⟨none, .store 1 (.t 94) (.t 92), none, false, []⟩] (some [[], [], [], [], [], [], [4, 5], [4, 5, 6], [], [], [8, 9], [8, 9, 10], [0, 1, 4, 5, 6, 7, 8, 9, 10, 11], [0, 1, 4, 5, 6, 7, 8, 9, 10, 11, 12], [0, 1, 2, 3, 4, 5, 6, 7, 8, 9, 10, 11, 12, 13], [0, 1, 2, 3, 4, 5, 6, 7, 8, 9, 10, 11, 12, 13, 14]]))
 (.seq (.ops [⟨(some 95), .mv (.t 10), none, false, []⟩,
   ⟨(some 96), .bin .sc .add (.t 95) (.c (.int .i64 1)), none, false, []⟩,
   ⟨(some 10), .mv (.t 96), none, false, []⟩] none)
 (.seq (.ops [⟨(some 97), .mv (.t 11), none, false, []⟩,
   ⟨(some 98), .bin .sc .sub (.t 97) (.c (.int .i64 1)), none, false, []⟩,
   ⟨(some 11), .mv (.t 98), none, false, []⟩] none)
 (.seq (.block 4 (.loop (.block 5 (.seq (.block 6 (.loop (.seq (.seq (.ops [⟨(some 99), .mv (.t 10), none, false, []⟩,
   ⟨(some 100), .mv (.t 11), none, false, []⟩,
   ⟨(some 101), .bin .sc .leq (.t 99) (.t 100), none, false, []⟩,
   ⟨(some 102), .mv (.t 101), none, false, []⟩,
   ⟨(some 103), .mv (.t 0), (some (102, true)), false, []⟩,
   ⟨(some 104), .mv (.t 10), (some (102, true)), false, []⟩,
   ⟨(some 105), .iaddr none 1 (.t 103) (.t 104), (some (102, true)), false, []⟩,
   ⟨(some 106), .load false 1 (.t 105), (some (102, true)), false, []⟩,
   ⟨(some 107), .mv (.t 0), (some (102, true)), false, []⟩,
   ⟨(some 108), .mv (.t 1), (some (102, true)), false, []⟩,
   ⟨(some 109), .iaddr none 1 (.t 107) (.t 108), (some (102, true)), false, []⟩,
   ⟨(some 110), .load false 1 (.t 109), (some (102, true)), false, []⟩,
   ⟨(some 111), .call (.c (.func 126 [] [])) [(.t 106), (.t 110)], (some (102, true)), false, []⟩,
   ⟨(some 112), .pick (.t 102) (.t 111) (.c (.bool false)), none, false, []⟩] (some [[], [], [0, 1], [0, 1, 2], [0, 1, 2, 3], [0, 1, 2, 3], [0, 1, 2, 3, 4, 5], [0, 1, 2, 3, 4, 5, 6], [0, 1, 2, 3], [0, 1, 2, 3], [0, 1, 2, 3, 8, 9], [0, 1, 2, 3, 8, 9, 10], [0, 1, 2, 3, 4, 5, 6, 7, 8, 9, 10, 11], [0, 1, 2, 3, 4, 5, 6, 7, 8, 9, 10, 11, 12]]))
 (.cond (.t 112) .skip (.exit 6)))
 (.block 7 (.ops [⟨(some 113), .mv (.t 10), none, false, []⟩,
   ⟨(some 114), .bin .sc .add (.t 113) (.c (.int .i64 1)), none, false, []⟩,
   ⟨(some 10), .mv (.t 114), none, false, []⟩] none)))))
 (.seq (.block 8 (.loop (.seq (.seq (.ops [⟨(some 115), .mv (.t 10), none, false, []⟩,
   ⟨(some 116), .mv (.t 11), none, false, []⟩,
   ⟨(some 117), .bin .sc .leq (.t 115) (.t 116), none, false, []⟩,
   ⟨(some 118), .mv (.t 117), none, false, []⟩,
   ⟨(some 119), .mv (.t 0), (some (118, true)), false, []⟩,
   ⟨(some 120), .mv (.t 11), (some (118, true)), false, []⟩,
   ⟨(some 121), .iaddr none 1 (.t 119) (.t 120), (some (118, true)), false, []⟩,
   ⟨(some 122), .load false 1 (.t 121), (some (118, true)), false, []⟩,
   ⟨(some 123), .mv (.t 0), (some (118, true)), false, []⟩,
   ⟨(some 124), .mv (.t 1), (some (118, true)), false, []⟩,
   ⟨(some 125), .iaddr none 1 (.t 123) (.t 124), (some (118, true)), false, []⟩,
   ⟨(some 126), .load false 1 (.t 125), (some (118, true)), false, []⟩,
   ⟨(some 127), .call (.c (.func 126 [] [])) [(.t 122), (.t 126)], (some (118, true)), false, []⟩,
   ⟨(some 128), .not (.t 127), (some (118, true)), false, []⟩,
   ⟨(some 129), .pick (.t 118) (.t 128) (.c (.bool false)), none, false, []⟩] (some [[], [], [0, 1], [0, 1, 2], [0, 1, 2, 3], [0, 1, 2, 3], [0, 1, 2, 3, 4, 5], [0, 1, 2, 3, 4, 5, 6], [0, 1, 2, 3], [0, 1, 2, 3], [0, 1, 2, 3, 8, 9], [0, 1, 2, 3, 8, 9, 10], [0, 1, 2, 3, 4, 5, 6, 7, 8, 9, 10, 11], [0, 1, 2, 3, 4, 5, 6, 7, 8, 9, 10, 11, 12], [0, 1, 2, 3, 4, 5, 6, 7, 8, 9, 10, 11, 12, 13]]))
 (.cond (.t 129) .skip (.exit 8)))
 (.block 9 (.ops [⟨(some 130), .mv (.t 11), none, false, []⟩,
   ⟨(some 131), .bin .sc .sub (.t 130) (.c (.int .i64 1)), none, false, []⟩,
   ⟨(some 11), .mv (.t 131), none, false, []⟩] none)))))
 (.seq (.seq (.ops [⟨(some 132), .mv (.t 10), none, false, []⟩,
   ⟨(some 133), .mv (.t 11), none, false, []⟩,
   ⟨(some 134), .bin .sc .gtr (.t 132) (.t 133), none, false, []⟩] none)
 (.cond (.t 134) (.exit 4) .skip))
 (.seq (.ops [⟨(some 135), .mv (.t 0), none, false, []⟩,
   ⟨(some 136), .mv (.t 10), none, false, []⟩,
   ⟨(some 137), .mv (.t 0), none, false, []⟩,
   ⟨(some 138), .mv (.t 11), none, false, []⟩,
   ⟨(some 139), .mv (.t 0), none, false, []⟩,
   ⟨(some 140), .mv (.t 11), none, false, []⟩,
   ⟨(some 141), .iaddr none 1 (.t 139) (.t 140), none, false, []⟩,
   ⟨(some 142), .load false 1 (.t 141), none, false, []⟩,
   ⟨(some 143), .mv (.t 0), none, false, []⟩,
   ⟨(some 144), .mv (.t 10), none, false, []⟩,
   ⟨(some 145), .iaddr none 1 (.t 143) (.t 144), none, false, []⟩,
   ⟨(some 146), .load false 1 (.t 145), none, false, []⟩,
   ⟨(some 147), .iaddr none 1 (.t 135) (.t 136), none, false, []⟩,
   ⟨none, .store 1 (.t 147) (.t 142), none, false, []⟩,
   ⟨(some 148), .iaddr none 1 (.t 137) (.t 138), none, false, []⟩,
   ⟨none, .store 1 (.t 148) (.t 146), none, false, []⟩] (some [[], [], [], [], [], [], [4, 5], [4, 5, 6], [], [], [8, 9], [8, 9, 10], [0, 1, 4, 5, 6, 7, 8, 9, 10, 11], [0, 1, 4, 5, 6, 7, 8, 9, 10, 11, 12], [0, 1, 2, 3, 4, 5, 6, 7, 8, 9, 10, 11, 12, 13], [0, 1, 2, 3, 4, 5, 6, 7, 8, 9, 10, 11, 12, 13, 14]]))
 (.seq (.ops [⟨(some 149), .mv (.t 10), none, false, []⟩,
   ⟨(some 150), .bin .sc .add (.t 149) (.c (.int .i64 1)), none, false, []⟩,
   ⟨(some 10), .mv (.t 150), none, false, []⟩] none)
 (.ops [⟨(some 151), .mv (.t 11), none, false, []⟩,
   ⟨(some 152), .bin .sc .sub (.t 151) (.c (.int .i64 1)), none, false, []⟩,
   ⟨(some 11), .mv (.t 152), none, false, []⟩] none)))))))))
 (.seq (.ops [⟨(some 153), .mv (.t 0), none, false, []⟩,
   ⟨(some 154), .mv (.t 11), none, false, []⟩,
   ⟨(some 155), .mv (.t 0), none, false, []⟩,
   ⟨(some 156), .mv (.t 1), none, false, []⟩,
   ⟨(some 157), .mv (.t 0), none, false, []⟩,
   ⟨(some 158), .mv (.t 1), none, false, []⟩,
   ⟨(some 159), .iaddr none 1 (.t 157) (.t 158), none, false, []⟩,
   ⟨(some 160), .load false 1 (.t 159), none, false, []⟩,
   ⟨(some 161), .mv (.t 0), none, false, []⟩,
   ⟨(some 162), .mv (.t 11), none, false, []⟩,
   ⟨(some 163), .iaddr none 1 (.t 161) (.t 162), none, false, []⟩,
   ⟨(some 164), .load false 1 (.t 163), none, false, []⟩,
   ⟨(some 165), .iaddr none 1 (.t 153) (.t 154), none, false, []⟩,
   ⟨none, .store 1 (.t 165) (.t 160), none, false, []⟩,
   ⟨(some 166), .iaddr none 1 (.t 155) (.t 156), none, false, []⟩,
   ⟨none, .store 1 (.t 166) (.t 164), none, false, []⟩] (some [[], [], [], [], [], [], [4, 5], [4, 5, 6], [], [], [8, 9], [8, 9, 10], [0, 1, 4, 5, 6, 7, 8, 9, 10, 11], [0, 1, 4, 5, 6, 7, 8, 9, 10, 11, 12], [0, 1, 2, 3, 4, 5, 6, 7, 8, 9, 10, 11, 12, 13], [0, 1, 2, 3, 4, 5, 6, 7, 8, 9, 10, 11, 12, 13, 14]]))
 (.seq (.ops [⟨(some 167), .mv (.t 11), none, false, []⟩,
   ⟨(some 8), .mv (.t 167), none, false, []⟩,
   ⟨(some 9), .mv (.c (.bool false)), none, false, []⟩] none)
 .ret)))))))))))) }
/- slices.siftDownOrdered[string] -/
def f131 : AFunc :=
 { np := 4, ntmps := 76, results := [], frz := false, body :=
 (.seq (.ops [⟨(some 10), .mv (.t 1), none, false, []⟩,
   ⟨(some 8), .mv (.t 10), none, false, []⟩] none)
 (.block 0 (.loop (.block 1 (.seq (.ops [⟨(some 11), .mv (.t 8), none, false, []⟩,
   ⟨(some 12), .bin .sc .mul (.c (.int .i64 2)) (.t 11), none, false, []⟩,
   ⟨(some 13), .bin .sc .add (.t 12) (.c (.int .i64 1)), none, false, []⟩,
   ⟨(some 9), .mv (.t 13), none, false, []⟩] none)
 (.seq (.seq (.ops [⟨(some 14), .mv (.t 9), none, false, []⟩,
   ⟨(some 15), .mv (.t 2), none, false, []⟩,
   ⟨(some 16), .bin .sc .geq (.t 14) (.t 15), none, false, []⟩] none)
 (.cond (.t 16) (.exit 0) .skip))
 (.seq (.seq (.ops [⟨(some 17), .mv (.t 9), none, false, []⟩,
   ⟨(some 18), .bin .sc .add (.t 17) (.c (.int .i64 1)), none, false, []⟩,
   ⟨(some 19), .mv (.t 2), none, false, []⟩,
   ⟨(some 20), .bin .sc .lss (.t 18) (.t 19), none, false, []⟩,
   ⟨(some 21), .mv (.t 20), none, false, []⟩,
   ⟨(some 22), .mv (.t 0), (some (21, true)), false, []⟩,
   ⟨(some 23), .mv (.t 3), (some (21, true)), false, []⟩,
   ⟨(some 24), .mv (.t 9), (some (21, true)), false, []⟩,
   ⟨(some 25), .bin .sc .add (.t 23) (.t 24), (some (21, true)), false, []⟩,
   ⟨(some 26), .iaddr none 1 (.t 22) (.t 25), (some (21, true)), false, []⟩,
   ⟨(some 27), .load false 1 (.t 26), (some (21, true)), false, []⟩,
   ⟨(some 28), .mv (.t 0), (some (21, true)), false, []⟩,
   ⟨(some 29), .mv (.t 3), (some (21, true)), false, []⟩,
   ⟨(some 30), .mv (.t 9), (some (21, true)), false, []⟩,
   ⟨(some 31), .bin .sc .add (.t 29) (.t 30), (some (21, true)), false, []⟩,
   ⟨(some 32), .bin .sc .add (.t 31) (.c (.int .i64 1)), (some (21, true)), false, []⟩,
   ⟨(some 33), .iaddr none 1 (.t 28) (.t 32), (some (21, true)), false, []⟩,
   ⟨(some 34), .load false 1 (.t 33), (some (21, true)), false, []⟩,
   ⟨(some 35), .call (.c (.func 126 [] [])) [(.t 27), (.t 34)], (some (21, true)), false, []⟩,
   ⟨(some 36), .pick (.t 21) (.t 35) (.c (.bool false)), none, false, []⟩] (some [[], [0], [], [0, 1, 2], [0, 1, 2, 3], [0, 1, 2, 3, 4], [0, 1, 2, 3, 4], [0, 1, 2, 3, 4], [0, 1, 2, 3, 4, 6, 7], [0, 1, 2, 3, 4, 5, 6, 7, 8], [0, 1, 2, 3, 4, 5, 6, 7, 8, 9], [0, 1, 2, 3, 4], [0, 1, 2, 3, 4], [0, 1, 2, 3, 4], [0, 1, 2, 3, 4, 12, 13], [0, 1, 2, 3, 4, 12, 13, 14], [0, 1, 2, 3, 4, 11, 12, 13, 14, 15], [0, 1, 2, 3, 4, 11, 12, 13, 14, 15, 16], [0, 1, 2, 3, 4, 5, 6, 7, 8, 9, 10, 11, 12, 13, 14, 15, 16, 17], [0, 1, 2, 3, 4, 5, 6, 7, 8, 9, 10, 11, 12, 13, 14, 15, 16, 17, 18]]))
 (.cond (.t 36) (.ops [⟨(some 37), .mv (.t 9), none, false, []⟩,
   ⟨(some 38), .bin .sc .add (.t 37) (.c (.int .i64 1)), none, false, []⟩,
   ⟨(some 9), .mv (.t 38), none, false, []⟩] none) .skip))
 (.seq (.seq (.ops [⟨(some 39), .mv (.t 0), none, false, []⟩,
   ⟨(some 40), .mv (.t 3), none, false, []⟩,
   ⟨(some 41), .mv (.t 8), none, false, []⟩,
   ⟨(some 42), .bin .sc .add (.t 40) (.t 41), none, false, []⟩,
   ⟨(some 43), .iaddr none 1 (.t 39) (.t 42), none, false, []⟩,
   ⟨(some 44), .load false 1 (.t 43), none, false, []⟩,
   ⟨(some 45), .mv (.t 0), none, false, []⟩,
   ⟨(some 46), .mv (.t 3), none, false, []⟩,
   ⟨(some 47), .mv (.t 9), none, false, []⟩,
   ⟨(some 48), .bin .sc .add (.t 46) (.t 47), none, false, []⟩,
   ⟨(some 49), .iaddr none 1 (.t 45) (.t 48), none, false, []⟩,
   ⟨(some 50), .load false 1 (.t 49), none, false, []⟩,
   ⟨(some 51), .call (.c (.func 126 [] [])) [(.t 44), (.t 50)], none, false, []⟩,
   ⟨(some 52), .not (.t 51), none, false, []⟩] (some [[], [], [], [1, 2], [0, 1, 2, 3], [0, 1, 2, 3, 4], [], [], [], [7, 8], [6, 7, 8, 9], [6, 7, 8, 9, 10], [0, 1, 2, 3, 4, 5, 6, 7, 8, 9, 10, 11], [0, 1, 2, 3, 4, 5, 6, 7, 8, 9, 10, 11, 12]]))
 (.cond (.t 52) .ret .skip))
 (.seq (.ops [⟨(some 53), .mv (.t 0), none, false, []⟩,
   ⟨(some 54), .mv (.t 3), none, false, []⟩,
   ⟨(some 55), .mv (.t 8), none, false, []⟩,
   ⟨(some 56), .bin .sc .add (.t 54) (.t 55), none, false, []⟩,
   ⟨(some 57), .mv (.t 0), none, false, []⟩,
   ⟨(some 58), .mv (.t 3), none, false, []⟩,
   ⟨(some 59), .mv (.t 9), none, false, []⟩,
   ⟨(some 60), .bin .sc .add (.t 58) (.t 59), none, false, []⟩,
   ⟨(some 61), .mv (.t 0), none, false, []⟩,
   ⟨(some 62), .mv (.t 3), none, false, []⟩,
   ⟨(some 63), .mv (.t 9), none, false, []⟩,
   ⟨(some 64), .bin .sc .add (.t 62) (.t 63), none, false, []⟩,
   ⟨(some 65), .iaddr none 1 (.t 61) (.t 64), none, false, []⟩,
   ⟨(some 66), .load false 1 (.t 65), none, false, []⟩,
   ⟨(some 67), .mv (.t 0), none, false, []⟩,
   ⟨(some 68), .mv (.t 3), none, false, []⟩,
   ⟨(some 69), .mv (.t 8), none, false, []⟩,
   ⟨(some 70), .bin .sc .add (.t 68) (.t 69), none, false, []⟩,
   ⟨(some 71), .iaddr none 1 (.t 67) (.t 70), none, false, []⟩,
   ⟨(some 72), .load false 1 (.t 71), none, false, []⟩,
   ⟨(some 73), .iaddr none 1 (.t 53) (.t 56), none, false, []⟩,
   ⟨none, .store 1 (.t 73) (.t 66), none, false, []⟩,
   ⟨(some 74), .iaddr none 1 (.t 57) (.t 60), none, false, []⟩,
   ⟨none, .store 1 (.t 74) (.t 72), none, false, []⟩] (some [[], [], [], [1, 2], [], [], [], [5, 6], [], [], [], [9, 10], [8, 9, 10, 11], [8, 9, 10, 11, 12], [], [], [], [15, 16], [14, 15, 16, 17], [14, 15, 16, 17, 18], [0, 1, 2, 3, 8, 9, 10, 11, 12, 13, 14, 15, 16, 17, 18, 19], [0, 1, 2, 3, 8, 9, 10, 11, 12, 13, 14, 15, 16, 17, 18, 19, 20], [0, 1, 2, 3, 4, 5, 6, 7, 8, 9, 10, 11, 12, 13, 14, 15, 16, 17, 18, 19, 20, 21], [0, 1, 2, 3, 4, 5, 6, 7, 8, 9, 10, 11, 12, 13, 14, 15, 16, 17, 18, 19, 20, 21, 22]]))
 (.ops [⟨(some 75), .mv (.t 9), none, false, []⟩,
   ⟨(some 8), .mv (.t 75), none, false, []⟩] none)))))))))) }
/- slices.medianAdjacentOrdered[string] -/
def f132 : AFunc :=
 { np := 3, ntmps := 15, results := [.tmp 6], frz := false, body :=
 (.seq (.ops [⟨(some 6), .mv (.c (.int .i64 0)), none, false, []⟩] none)
 (.seq (.ops [⟨(some 7), .mv (.t 0), none, false, []⟩,
   ⟨(some 8), .mv (.t 1), none, false, []⟩,
   ⟨(some 9), .bin .sc .sub (.t 8) (.c (.int .i64 1)), none, false, []⟩,
   ⟨(some 10), .mv (.t 1), none, false, []⟩,
   ⟨(some 11), .mv (.t 1), none, false, []⟩,
   ⟨(some 12), .bin .sc .add (.t 11) (.c (.int .i64 1)), none, false, []⟩,
   ⟨(some 13), .mv (.t 2), none, false, []⟩,
   ⟨(some 14), .call (.c (.func 133 [] [])) [(.t 7), (.t 9), (.t 10), (.t 12), (.t 13)], none, false, []⟩,
   ⟨(some 6), .mv (.t 14), none, false, []⟩] none)
 .ret)) }
/- slices.medianOrdered[string] -/
def f133 : AFunc :=
 { np := 5, ntmps := 36, results := [.tmp 10], frz := false, body :=
 (.seq (.ops [⟨(some 10), .mv (.c (.int .i64 0)), none, false, []⟩] none)
 (.seq (.ops [⟨(some 12), .mv (.t 0), none, false, []⟩,
   ⟨(some 13), .mv (.t 1), none, false, []⟩,
   ⟨(some 14), .mv (.t 2), none, false, []⟩,
   ⟨(some 15), .mv (.t 4), none, false, []⟩,
   ⟨(some 16), .call (.c (.func 136 [] [])) [(.t 12), (.t 13), (.t 14), (.t 15)], none, false, []⟩,
   ⟨(some 11), .mv (.t 16), none, false, []⟩,
   ⟨(some 17), .extract 0 (.t 11), none, false, []⟩,
   ⟨(some 18), .extract 1 (.t 11), none, false, []⟩,
   ⟨(some 1), .mv (.t 17), none, false, []⟩,
   ⟨(some 2), .mv (.t 18), none, false, []⟩] none)
 (.seq (.ops [⟨(some 20), .mv (.t 0), none, false, []⟩,
   ⟨(some 21), .mv (.t 2), none, false, []⟩,
   ⟨(some 22), .mv (.t 3), none, false, []⟩,
   ⟨(some 23), .mv (.t 4), none, false, []⟩,
   ⟨(some 24), .call (.c (.func 136 [] [])) [(.t 20), (.t 21), (.t 22), (.t 23)], none, false, []⟩,
   ⟨(some 19), .mv (.t 24), none, false, []⟩,
   ⟨(some 25), .extract 0 (.t 19), none, false, []⟩,
   ⟨(some 26), .extract 1 (.t 19), none, false, []⟩,
   ⟨(some 2), .mv (.t 25), none, false, []⟩,
   ⟨(some 3), .mv (.t 26), none, false, []⟩] none)
 (.seq (.ops [⟨(some 28), .mv (.t 0), none, false, []⟩,
   ⟨(some 29), .mv (.t 1), none, false, []⟩,
   ⟨(some 30), .mv (.t 2), none, false, []⟩,
   ⟨(some 31), .mv (.t 4), none, false, []⟩,
   ⟨(some 32), .call (.c (.func 136 [] [])) [(.t 28), (.t 29), (.t 30), (.t 31)], none, false, []⟩,
   ⟨(some 27), .mv (.t 32), none, false, []⟩,
   ⟨(some 33), .extract 0 (.t 27), none, false, []⟩,
   ⟨(some 34), .extract 1 (.t 27), none, false, []⟩,
   ⟨(some 1), .mv (.t 33), none, false, []⟩,
   ⟨(some 2), .mv (.t 34), none, false, []⟩] none)
 (.seq (.ops [⟨(some 35), .mv (.t 2), none, false, []⟩,
   ⟨(some 10), .mv (.t 35), none, false, []⟩] none)
 .ret))))) }
/- cmp.isNaN[string] -/
def f134 : AFunc :=
 { np := 1, ntmps := 6, results := [.tmp 2], frz := false, body :=
 (.seq (.ops [⟨(some 2), .mv (.c (.bool false)), none, false, []⟩] none)
 (.seq (.ops [⟨(some 3), .mv (.t 0), none, false, []⟩,
   ⟨(some 4), .mv (.t 0), none, false, []⟩,
   ⟨(some 5), .bin .sc .neq (.t 3) (.t 4), none, false, []⟩,
   ⟨(some 2), .mv (.t 5), none, false, []⟩] none)
 .ret)) }
/- slices.order2Ordered[string] -/
def f136 : AFunc :=
 { np := 4, ntmps := 28, results := [.tmp 8, .tmp 9], frz := false, body :=
 (.seq (.ops [⟨(some 8), .mv (.c (.int .i64 0)), none, false, []⟩,
   ⟨(some 9), .mv (.c (.int .i64 0)), none, false, []⟩] none)
 (.seq (.seq (.ops [⟨(some 10), .mv (.t 0), none, false, []⟩,
   ⟨(some 11), .mv (.t 2), none, false, []⟩,
   ⟨(some 12), .iaddr none 1 (.t 10) (.t 11), none, false, []⟩,
   ⟨(some 13), .load false 1 (.t 12), none, false, []⟩,
   ⟨(some 14), .mv (.t 0), none, false, []⟩,
   ⟨(some 15), .mv (.t 1), none, false, []⟩,
   ⟨(some 16), .iaddr none 1 (.t 14) (.t 15), none, false, []⟩,
   ⟨(some 17), .load false 1 (.t 16), none, false, []⟩,
   ⟨(some 18), .call (.c (.func 126 [] [])) [(.t 13), (.t 17)], none, false, []⟩] (some [[], [], [0, 1], [0, 1, 2], [], [], [4, 5], [4, 5, 6], [0, 1, 2, 3, 4, 5, 6, 7]]))
 (.cond (.t 18) (.seq (.ops [⟨(some 19), .mv (.t 3), none, false, []⟩,
   ⟨(some 20), .nilck (.t 19), none, false, []⟩,
   ⟨(some 21), .load false 1 (.t 20), none, false, []⟩,
   ⟨(some 22), .bin .sc .add (.t 21) (.c (.int .i64 1)), none, false, []⟩,
   ⟨(some 23), .nilck (.t 19), none, false, []⟩,
   ⟨none, .store 1 (.t 23) (.t 22), none, false, []⟩] none)
 (.seq (.ops [⟨(some 24), .mv (.t 2), none, false, []⟩,
   ⟨(some 25), .mv (.t 1), none, false, []⟩,
   ⟨(some 8), .mv (.t 24), none, false, []⟩,
   ⟨(some 9), .mv (.t 25), none, false, []⟩] none)
 .ret)) .skip))
 (.seq (.ops [⟨(some 26), .mv (.t 1), none, false, []⟩,
   ⟨(some 27), .mv (.t 2), none, false, []⟩,
   ⟨(some 8), .mv (.t 26), none, false, []⟩,
   ⟨(some 9), .mv (.t 27), none, false, []⟩] none)
 .ret))) }
end Go.Am.DataCons
