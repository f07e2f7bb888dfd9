/- The code of the functions, for the abstract machine: printed by a program of this claim. -/
import Derived.Test.YthobghcnjampjaaAmA
set_option maxRecDepth 100000
namespace Go.Am.DataWrong
open Go.Am
/- cmp.Less[string] -/
def f126 : AFunc :=
 { np := 2, ntmps := 17, results := [.tmp 4], frz := false, body :=
 (.seq (.ops [⟨(some 4), .mv (.c (.bool false)), none, false, []⟩] none)
 (.seq (.ops [⟨(some 5), .mv (.t 0), none, false, []⟩,
   ⟨(some 6), .call (.c (.func 134 [] [])) [(.t 5)], none, false, []⟩,
   ⟨(some 7), .mv (.t 6), none, false, []⟩,
   ⟨(some 8), .mv (.t 1), (some (7, true)), false, []⟩,
   ⟨(some 9), .call (.c (.func 134 [] [])) [(.t 8)], (some (7, true)), false, []⟩,
   ⟨(some 10), .not (.t 9), (some (7, true)), false, []⟩,
   ⟨(some 11), .pick (.t 7) (.t 10) (.c (.bool false)), none, false, []⟩,
   ⟨(some 12), .mv (.t 11), none, false, []⟩,
   ⟨(some 13), .mv (.t 0), (some (12, false)), false, []⟩,
   ⟨(some 14), .mv (.t 1), (some (12, false)), false, []⟩,
   ⟨(some 15), .bin .sc .lss (.t 13) (.t 14), (some (12, false)), false, []⟩,
   ⟨(some 16), .pick (.t 12) (.c (.bool true)) (.t 15), none, false, []⟩,
   ⟨(some 4), .mv (.t 16), none, false, []⟩] none)
 .ret)) }
/- slices.partitionEqualOrdered[string] -/
def f127 : AFunc :=
 { np := 4, ntmps := 84, results := [.tmp 8], frz := false, body :=
 (.seq (.ops [⟨(some 8), .mv (.c (.int .i64 0)), none, false, []⟩] none)
 (.seq (.ops [⟨(some 11), .mv (.t 0), none, false, []⟩,
   ⟨(some 12), .mv (.t 1), none, false, []⟩,
   ⟨(some 13), .mv (.t 0), none, false, []⟩,
   ⟨(some 14), .mv (.t 3), none, false, []⟩,
   ⟨(some 15), .mv (.t 0), none, false, []⟩,
   ⟨(some 16), .mv (.t 3), none, false, []⟩,
   ⟨(some 17), .iaddr none 1 (.t 15) (.t 16), none, false, []⟩,
   ⟨(some 18), .load false 1 (.t 17), none, false, []⟩,
   ⟨(some 19), .mv (.t 0), none, false, []⟩,
   ⟨(some 20), .mv (.t 1), none, false, []⟩,
   ⟨(some 21), .iaddr none 1 (.t 19) (.t 20), none, false, []⟩,
   ⟨(some 22), .load false 1 (.t 21), none, false, []⟩,
   ⟨(some 23), .iaddr none 1 (.t 11) (.t 12), none, false, []⟩,
   ⟨none, .store 1 (.t 23) (.t 18), none, false, []⟩,
   ⟨(some 24), .iaddr none 1 (.t 13) (.t 14), none, false, []⟩,
   ⟨none, .store 1 (.t 24) (.t 22), none, false, []⟩] (some [[], [], [], [], [], [], [4, 5], [4, 5, 6], [], [], [8, 9], [8, 9, 10], [0, 1, 4, 5, 6, 7, 8, 9, 10, 11], [0, 1, 4, 5, 6, 7, 8, 9, 10, 11, 12], [0, 1, 2, 3, 4, 5, 6, 7, 8, 9, 10, 11, 12, 13], [0, 1, 2, 3, 4, 5, 6, 7, 8, 9, 10, 11, 12, 13, 14]]))
 (.seq (.ops [⟨(some 25), .mv (.t 1), none, false, []⟩,
   ⟨(some 26), .bin .sc .add (.t 25) (.c (.int .i64 1)), none, false, []⟩,
   ⟨(some 27), .mv (.t 2), none, false, []⟩,
   ⟨(some 28), .bin .sc .sub (.t 27) (.c (.int .i64 1)), none, false, []⟩,
   ⟨(some 9), .mv (.t 26), none, false, []⟩,
   ⟨(some 10), .mv (.t 28), none, false, []⟩] none)
 (.seq (.block 0 (.loop (.block 1 (.seq (.block 2 (.loop (.seq (.seq (.ops [⟨(some 29), .mv (.t 9), none, false, []⟩,
   ⟨(some 30), .mv (.t 10), none, false, []⟩,
   ⟨(some 31), .bin .sc .leq (.t 29) (.t 30), none, false, []⟩,
   ⟨(some 32), .mv (.t 31), none, false, []⟩,
   ⟨(some 33), .mv (.t 0), (some (32, true)), false, []⟩,
   ⟨(some 34), .mv (.t 1), (some (32, true)), false, []⟩,
   ⟨(some 35), .iaddr none 1 (.t 33) (.t 34), (some (32, true)), false, []⟩,
   ⟨(some 36), .load false 1 (.t 35), (some (32, true)), false, []⟩,
   ⟨(some 37), .mv (.t 0), (some (32, true)), false, []⟩,
   ⟨(some 38), .mv (.t 9), (some (32, true)), false, []⟩,
   ⟨(some 39), .iaddr none 1 (.t 37) (.t 38), (some (32, true)), false, []⟩,
   ⟨(some 40), .load false 1 (.t 39), (some (32, true)), false, []⟩,
   ⟨(some 41), .call (.c (.func 126 [] [])) [(.t 36), (.t 40)], (some (32, true)), false, []⟩,
   ⟨(some 42), .not (.t 41), (some (32, true)), false, []⟩,
   ⟨(some 43), .pick (.t 32) (.t 42) (.c (.bool false)), none, false, []⟩] (some [[], [], [0, 1], [0, 1, 2], [0, 1, 2, 3], [0, 1, 2, 3], [0, 1, 2, 3, 4, 5], [0, 1, 2, 3, 4, 5, 6], [0, 1, 2, 3], [0, 1, 2, 3], [0, 1, 2, 3, 8, 9], [0, 1, 2, 3, 8, 9, 10], [0, 1, 2, 3, 4, 5, 6, 7, 8, 9, 10, 11], [0, 1, 2, 3, 4, 5, 6, 7, 8, 9, 10, 11, 12], [0, 1, 2, 3, 4, 5, 6, 7, 8, 9, 10, 11, 12, 13]]))
 (.cond (.t 43) .skip (.exit 2)))
 (.block 3 (.ops [⟨(some 44), .mv (.t 9), none, false, []⟩,
   ⟨(some 45), .bin .sc .add (.t 44) (.c (.int .i64 1)), none, false, []⟩,
   ⟨(some 9), .mv (.t 45), none, false, []⟩] none)))))
 (.seq (.block 4 (.loop (.seq (.seq (.ops [⟨(some 46), .mv (.t 9), none, false, []⟩,
   ⟨(some 47), .mv (.t 10), none, false, []⟩,
   ⟨(some 48), .bin .sc .leq (.t 46) (.t 47), none, false, []⟩,
   ⟨(some 49), .mv (.t 48), none, false, []⟩,
   ⟨(some 50), .mv (.t 0), (some (49, true)), false, []⟩,
   ⟨(some 51), .mv (.t 1), (some (49, true)), false, []⟩,
   ⟨(some 52), .iaddr none 1 (.t 50) (.t 51), (some (49, true)), false, []⟩,
   ⟨(some 53), .load false 1 (.t 52), (some (49, true)), false, []⟩,
   ⟨(some 54), .mv (.t 0), (some (49, true)), false, []⟩,
   ⟨(some 55), .mv (.t 10), (some (49, true)), false, []⟩,
   ⟨(some 56), .iaddr none 1 (.t 54) (.t 55), (some (49, true)), false, []⟩,
   ⟨(some 57), .load false 1 (.t 56), (some (49, true)), false, []⟩,
   ⟨(some 58), .call (.c (.func 126 [] [])) [(.t 53), (.t 57)], (some (49, true)), false, []⟩,
   ⟨(some 59), .pick (.t 49) (.t 58) (.c (.bool false)), none, false, []⟩] (some [[], [], [0, 1], [0, 1, 2], [0, 1, 2, 3], [0, 1, 2, 3], [0, 1, 2, 3, 4, 5], [0, 1, 2, 3, 4, 5, 6], [0, 1, 2, 3], [0, 1, 2, 3], [0, 1, 2, 3, 8, 9], [0, 1, 2, 3, 8, 9, 10], [0, 1, 2, 3, 4, 5, 6, 7, 8, 9, 10, 11], [0, 1, 2, 3, 4, 5, 6, 7, 8, 9, 10, 11, 12]]))
 (.cond (.t 59) .skip (.exit 4)))
 (.block 5 (.ops [⟨(some 60), .mv (.t 10), none, false, []⟩,
   ⟨(some 61), .bin .sc .sub (.t 60) (.c (.int .i64 1)), none, false, []⟩,
   ⟨(some 10), .mv (.t 61), none, false, []⟩] none)))))
 (.seq (.seq (.ops [⟨(some 62), .mv (.t 9), none, false, []⟩,
   ⟨(some 63), .mv (.t 10), none, false, []⟩,
   ⟨(some 64), .bin .sc .gtr (.t 62) (.t 63), none, false, []⟩] none)
 (.cond (.t 64) (.exit 0) .skip))
 (.seq (.ops [⟨(some 65), .mv (.t 0), none, false, []⟩,
   ⟨(some 66), .mv (.t 9), none, false, []⟩,
   ⟨(some 67), .mv (.t 0), none, false, []⟩,
   ⟨(some 68), .mv (.t 10), none, false, []⟩,
   ⟨(some 69), .mv (.t 0), none, false, []⟩,
   ⟨(some 70), .mv (.t 10), none, false, []⟩,
   ⟨(some 71), .iaddr none 1 (.t 69) (.t 70), none, false, []⟩,
   ⟨(some 72), .load false 1 (.t 71), none, false, []⟩,
   ⟨(some 73), .mv (.t 0), none, false, []⟩,
   ⟨(some 74), .mv (.t 9), none, false, []⟩,
   ⟨(some 75), .iaddr none 1 (.t 73) (.t 74), none, false, []⟩,
   ⟨(some 76), .load false 1 (.t 75), none, false, []⟩,
   ⟨(some 77), .iaddr none 1 (.t 65) (.t 66), none, false, []⟩,
   ⟨none, .store 1 (.t 77) (.t 72), none, false, []⟩,
   ⟨(some 78), .iaddr none 1 (.t 67) (.t 68), none, false, []⟩,
   ⟨none, .store 1 (.t 78) (.t 76), none, false, []⟩] (some [[], [], [], [], [], [], [4, 5], [4, 5, 6], [], [], [8, 9], [8, 9, 10], [0, 1, 4, 5, 6, 7, 8, 9, 10, 11], [0, 1, 4, 5, 6, 7, 8, 9, 10, 11, 12], [0, 1, 2, 3, 4, 5, 6, 7, 8, 9, 10, 11, 12, 13], [0, 1, 2, 3, 4, 5, 6, 7, 8, 9, 10, 11, 12, 13, 14]]))
 (.seq (.ops [⟨(some 79), .mv (.t 9), none, false, []⟩,
   ⟨(some 80), .bin .sc .add (.t 79) (.c (.int .i64 1)), none, false, []⟩,
   ⟨(some 9), .mv (.t 80), none, false, []⟩] none)
 (.ops [⟨(some 81), .mv (.t 10), none, false, []⟩,
   ⟨(some 82), .bin .sc .sub (.t 81) (.c (.int .i64 1)), none, false, []⟩,
   ⟨(some 10), .mv (.t 82), none, false, []⟩] none)))))))))
 (.seq (.ops [⟨(some 83), .mv (.t 9), none, false, []⟩,
   ⟨(some 8), .mv (.t 83), none, false, []⟩] none)
 .ret))))) }
/- slices.partitionOrdered[string] -/
def f128 : AFunc :=
 { np := 4, ntmps := 168, results := [.tmp 8, .tmp 9], frz := false, body :=
 (.seq (.ops [⟨(some 8), .mv (.c (.int .i64 0)), none, false, []⟩,
   ⟨(some 9), .mv (.c (.bool false)), none, false, []⟩] none)
 (.seq (.ops [⟨(some 12), .mv (.t 0), none, false, []⟩,
   ⟨(some 13), .mv (.t 1), none, false, []⟩,
   ⟨(some 14), .mv (.t 0), none, false, []⟩,
   ⟨(some 15), .mv (.t 3), none, false, []⟩,
   ⟨(some 16), .mv (.t 0), none, false, []⟩,
   ⟨(some 17), .mv (.t 3), none, false, []⟩,
   ⟨(some 18), .iaddr none 1 (.t 16) (.t 17), none, false, []⟩,
   ⟨(some 19), .load false 1 (.t 18), none, false, []⟩,
   ⟨(some 20), .mv (.t 0), none, false, []⟩,
   ⟨(some 21), .mv (.t 1), none, false, []⟩,
   ⟨(some 22), .iaddr none 1 (.t 20) (.t 21), none, false, []⟩,
   ⟨(some 23), .load false 1 (.t 22), none, false, []⟩,
   ⟨(some 24), .iaddr none 1 (.t 12) (.t 13), none, false, []⟩,
   ⟨none, .store 1 (.t 24) (.t 19), none, false, []⟩,
   ⟨(some 25), .iaddr none 1 (.t 14) (.t 15), none, false, []⟩,
   ⟨none, .store 1 (.t 25) (.t 23), none, false, []⟩] (some [[], [], [], [], [], [], [4, 5], [4, 5, 6], [], [], [8, 9], [8, 9, 10], [0, 1, 4, 5, 6, 7, 8, 9, 10, 11], [0, 1, 4, 5, 6, 7, 8, 9, 10, 11, 12], [0, 1, 2, 3, 4, 5, 6, 7, 8, 9, 10, 11, 12, 13], [0, 1, 2, 3, 4, 5, 6, 7, 8, 9, 10, 11, 12, 13, 14]]))
 (.seq (.ops [⟨(some 26), .mv (.t 1), none, false, []⟩,
   ⟨(some 27), .bin .sc .add (.t 26) (.c (.int .i64 1)), none, false, []⟩,
   ⟨(some 28), .mv (.t 2), none, false, []⟩,
   ⟨(some 29), .bin .sc .sub (.t 28) (.c (.int .i64 1)), none, false, []⟩,
   ⟨(some 10), .mv (.t 27), none, false, []⟩,
   ⟨(some 11), .mv (.t 29), none, false, []⟩] none)
 (.seq (.block 0 (.loop (.seq (.seq (.ops [⟨(some 30), .mv (.t 10), none, false, []⟩,
   ⟨(some 31), .mv (.t 11), none, false, []⟩,
   ⟨(some 32), .bin .sc .leq (.t 30) (.t 31), none, false, []⟩,
   ⟨(some 33), .mv (.t 32), none, false, []⟩,
   ⟨(some 34), .mv (.t 0), (some (33, true)), false, []⟩,
   ⟨(some 35), .mv (.t 10), (some (33, true)), false, []⟩,
   ⟨(some 36), .iaddr none 1 (.t 34) (.t 35), (some (33, true)), false, []⟩,
   ⟨(some 37), .load false 1 (.t 36), (some (33, true)), false, []⟩,
   ⟨(some 38), .mv (.t 0), (some (33, true)), false, []⟩,
   ⟨(some 39), .mv (.t 1), (some (33, true)), false, []⟩,
   ⟨(some 40), .iaddr none 1 (.t 38) (.t 39), (some (33, true)), false, []⟩,
   ⟨(some 41), .load false 1 (.t 40), (some (33, true)), false, []⟩,
   ⟨(some 42), .call (.c (.func 126 [] [])) [(.t 37), (.t 41)], (some (33, true)), false, []⟩,
   ⟨(some 43), .pick (.t 33) (.t 42) (.c (.bool false)), none, false, []⟩] (some [[], [], [0, 1], [0, 1, 2], [0, 1, 2, 3], [0, 1, 2, 3], [0, 1, 2, 3, 4, 5], [0, 1, 2, 3, 4, 5, 6], [0, 1, 2, 3], [0, 1, 2, 3], [0, 1, 2, 3, 8, 9], [0, 1, 2, 3, 8, 9, 10], [0, 1, 2, 3, 4, 5, 6, 7, 8, 9, 10, 11], [0, 1, 2, 3, 4, 5, 6, 7, 8, 9, 10, 11, 12]]))
 (.cond (.t 43) .skip (.exit 0)))
 (.block 1 (.ops [⟨(some 44), .mv (.t 10), none, false, []⟩,
   ⟨(some 45), .bin .sc .add (.t 44) (.c (.int .i64 1)), none, false, []⟩,
   ⟨(some 10), .mv (.t 45), none, false, []⟩] none)))))
 (.seq (.block 2 (.loop (.seq (.seq (.ops [⟨(some 46), .mv (.t 10), none, false, []⟩,
   ⟨(some 47), .mv (.t 11), none, false, []⟩,
   ⟨(some 48), .bin .sc .leq (.t 46) (.t 47), none, false, []⟩,
   ⟨(some 49), .mv (.t 48), none, false, []⟩,
   ⟨(some 50), .mv (.t 0), (some (49, true)), false, []⟩,
   ⟨(some 51), .mv (.t 11), (some (49, true)), false, []⟩,
   ⟨(some 52), .iaddr none 1 (.t 50) (.t 51), (some (49, true)), false, []⟩,
   ⟨(some 53), .load false 1 (.t 52), (some (49, true)), false, []⟩,
   ⟨(some 54), .mv (.t 0), (some (49, true)), false, []⟩,
   ⟨(some 55), .mv (.t 1), (some (49, true)), false, []⟩,
   ⟨(some 56), .iaddr none 1 (.t 54) (.t 55), (some (49, true)), false, []⟩,
   ⟨(some 57), .load false 1 (.t 56), (some (49, true)), false, []⟩,
   ⟨(some 58), .call (.c (.func 126 [] [])) [(.t 53), (.t 57)], (some (49, true)), false, []⟩,
   ⟨(some 59), .not (.t 58), (some (49, true)), false, []⟩,
   ⟨(some 60), .pick (.t 49) (.t 59) (.c (.bool false)), none, false, []⟩] (some [[], [], [0, 1], [0, 1, 2], [0, 1, 2, 3], [0, 1, 2, 3], [0, 1, 2, 3, 4, 5], [0, 1, 2, 3, 4, 5, 6], [0, 1, 2, 3], [0, 1, 2, 3], [0, 1, 2, 3, 8, 9], [0, 1, 2, 3, 8, 9, 10], [0, 1, 2, 3, 4, 5, 6, 7, 8, 9, 10, 11], [0, 1, 2, 3, 4, 5, 6, 7, 8, 9, 10, 11, 12], [0, 1, 2, 3, 4, 5, 6, 7, 8, 9, 10, 11, 12, 13]]))
 (.cond (.t 60) .skip (.exit 2)))
 (.block 3 (.ops [⟨(some 61), .mv (.t 11), none, false, []⟩,
   ⟨(some 62), .bin .sc .sub (.t 61) (.c (.int .i64 1)), none, false, []⟩,
   ⟨(some 11), .mv (.t 62), none, false, []⟩] none)))))
 (.seq (.seq (.ops [⟨(some 63), .mv (.t 10), none, false, []⟩,
   ⟨(some 64), .mv (.t 11), none, false, []⟩,
   ⟨(some 65), .bin .sc .gtr (.t 63) (.t 64), none, false, []⟩] none)
 (.cond (.t 65) (.seq (.ops [⟨(some 66), .mv (.t 0), none, false, []⟩,
   ⟨(some 67), .mv (.t 11), none, false, []⟩,
   ⟨(some 68), .mv (.t 0), none, false, []⟩,
   ⟨(some 69), .mv (.t 1), none, false, []⟩,
   ⟨(some 70), .mv (.t 0), none, false, []⟩,
   ⟨(some 71), .mv (.t 1), none, false, []⟩,
   ⟨(some 72), .iaddr none 1 (.t 70) (.t 71), none, false, []⟩,
   ⟨(some 73), .load false 1 (.t 72), none, false, []⟩,
   ⟨(some 74), .mv (.t 0), none, false, []⟩,
   ⟨(some 75), .mv (.t 11), none, false, []⟩,
   ⟨(some 76), .iaddr none 1 (.t 74) (.t 75), none, false, []⟩,
   ⟨(some 77), .load false 1 (.t 76), none, false, []⟩,
   ⟨(some 78), .iaddr none 1 (.t 66) (.t 67), none, false, []⟩,
   ⟨none, .store 1 (.t 78) (.t 73), none, false, []⟩,
   ⟨(some 79), .iaddr none 1 (.t 68) (.t 69), none, false, []⟩,
   ⟨none, .store 1 (.t 79) (.t 77), none, false, []⟩] (some [[], [], [], [], [], [], [4, 5], [4, 5, 6], [], [], [8, 9], [8, 9, 10], [0, 1, 4, 5, 6, 7, 8, 9, 10, 11], [0, 1, 4, 5, 6, 7, 8, 9, 10, 11, 12], [0, 1, 2, 3, 4, 5, 6, 7, 8, 9, 10, 11, 12, 13], [0, 1, 2, 3, 4, 5, 6, 7, 8, 9, 10, 11, 12, 13, 14]]))
 (.seq (.ops [⟨(some 80), .mv (.t 11), none, false, []⟩,
   ⟨(some 8), .mv (.t 80), none, false, []⟩,
   ⟨(some 9), .mv (.c (.bool true)), none, false, []⟩] none)
 .ret)) .skip))
 (.seq (.ops [⟨(some 81), .mv (.t 0), none, false, []⟩,
   ⟨(some 82), .mv (.t 10), none, false, []⟩,
   ⟨(some 83), .mv (.t 0), none, false, []⟩,
   ⟨(some 84), .mv (.t 11), none, false, []⟩,
   ⟨(some 85), .mv (.t 0), none, false, []⟩,
   ⟨(some 86), .mv (.t 11), none, false, []⟩,
   ⟨(some 87), .iaddr none 1 (.t 85) (.t 86), none, false, []⟩,
   ⟨(some 88), .load false 1 (.t 87), none, false, []⟩,
   ⟨(some 89), .mv (.t 0), none, false, []⟩,
   ⟨(some 90), .mv (.t 10), none, false, []⟩,
   ⟨(some 91), .iaddr none 1 (.t 89) (.t 90), none, false, []⟩,
   ⟨(some 92), .load false 1 (.t 91), none, false, []⟩,
   ⟨(some 93), .iaddr none 1 (.t 81) (.t 82), none, false, []⟩,
   ⟨none, .store 1 (.t 93) (.t 88), none, false, []⟩,
   ⟨(some 94), .iaddr none 1 (.t 83) (.t 84), none, false, []⟩,
   ⟨none, .store 1 (.t 94) (.t 92), none, false, []⟩] (some [[], [], [], [], [], [], [4, 5], [4, 5, 6], [], [], [8, 9], [8, 9, 10], [0, 1, 4, 5, 6, 7, 8, 9, 10, 11], [0, 1, 4, 5, 6, 7, 8, 9, 10, 11, 12], [0, 1, 2, 3, 4, 5, 6, 7, 8, 9, 10, 11, 12, 13], [0, 1, 2, 3, 4, 5, 6, 7, 8, 9, 10, 11, 12, 13, 14]]))
 (.seq (.ops [⟨(some 95), .mv (.t 10), none, false, []⟩,
   ⟨(some 96), .bin .sc .add (.t 95) (.c (.int .i64 1)), none, false, []⟩,
   ⟨(some 10), .mv (.t 96), none, false, []⟩] none)
 (.seq (.ops [⟨(some 97), .mv (.t 11), none, false, []⟩,
   ⟨(some 98), .bin .sc .sub (.t 97) (.c (.int .i64 1)), none, false, []⟩,
   ⟨(some 11), .mv (.t 98), none, false, []⟩] none)
 (.seq (.block 4 (.loop (.block 5 (.seq (.block 6 (.loop (.seq (.seq (.ops [⟨(some 99), .mv (.t 10), none, false, []⟩,
   ⟨(some 100), .mv (.t 11), none, false, []⟩,
   ⟨(some 101), .bin .sc .leq (.t 99) (.t 100), none, false, []⟩,
   ⟨(some 102), .mv (.t 101), none, false, []⟩,
   ⟨(some 103), .mv (.t 0), (some (102, true)), false, []⟩,
   ⟨(some 104), .mv (.t 10), (some (102, true)), false, []⟩,
   ⟨(some 105), .iaddr none 1 (.t 103) (.t 104), (some (102, true)), false, []⟩,
   ⟨(some 106), .load false 1 (.t 105), (some (102, true)), false, []⟩,
   ⟨(some 107), .mv (.t 0), (some (102, true)), false, []⟩,
   ⟨(some 108), .mv (.t 1), (some (102, true)), false, []⟩,
   ⟨(some 109), .iaddr none 1 (.t 107) (.t 108), (some (102, true)), false, []⟩,
   ⟨(some 110), .load false 1 (.t 109), (some (102, true)), false, []⟩,
   ⟨(some 111), .call (.c (.func 126 [] [])) [(.t 106), (.t 110)], (some (102, true)), false, []⟩,
   ⟨(some 112), .pick (.t 102) (.t 111) (.c (.bool false)), none, false, []⟩] (some [[], [], [0, 1], [0, 1, 2], [0, 1, 2, 3], [0, 1, 2, 3], [0, 1, 2, 3, 4, 5], [0, 1, 2, 3, 4, 5, 6], [0, 1, 2, 3], [0, 1, 2, 3], [0, 1, 2, 3, 8, 9], [0, 1, 2, 3, 8, 9, 10], [0, 1, 2, 3, 4, 5, 6, 7, 8, 9, 10, 11], [0, 1, 2, 3, 4, 5, 6, 7, 8, 9, 10, 11, 12]]))
 (.cond (.t 112) .skip (.exit 6)))
 (.block 7 (.ops [⟨(some 113), .mv (.t 10), none, false, []⟩,
   ⟨(some 114), .bin .sc .add (.t 113) (.c (.int .i64 1)), none, false, []⟩,
   ⟨(some 10), .mv (.t 114), none, false, []⟩] none)))))
 (.seq (.block 8 (.loop (.seq (.seq (.ops [⟨(some 115), .mv (.t 10), none, false, []⟩,
   ⟨(some 116), .mv (.t 11), none, false, []⟩,
   ⟨(some 117), .bin .sc .leq (.t 115) (.t 116), none, false, []⟩,
   ⟨(some 118), .mv (.t 117), none, false, []⟩,
   ⟨(some 119), .mv (.t 0), (some (118, true)), false, []⟩,
   ⟨(some 120), .mv (.t 11), (some (118, true)), false, []⟩,
   ⟨(some 121), .iaddr none 1 (.t 119) (.t 120), (some (118, true)), false, []⟩,
   ⟨(some 122), .load false 1 (.t 121), (some (118, true)), false, []⟩,
   ⟨(some 123), .mv (.t 0), (some (118, true)), false, []⟩,
   ⟨(some 124), .mv (.t 1), (some (118, true)), false, []⟩,
   ⟨(some 125), .iaddr none 1 (.t 123) (.t 124), (some (118, true)), false, []⟩,
   ⟨(some 126), .load false 1 (.t 125), (some (118, true)), false, []⟩,
   ⟨(some 127), .call (.c (.func 126 [] [])) [(.t 122), (.t 126)], (some (118, true)), false, []⟩,
   ⟨(some 128), .not (.t 127), (some (118, true)), false, []⟩,
   ⟨(some 129), .pick (.t 118) (.t 128) (.c (.bool false)), none, false, []⟩] (some [[], [], [0, 1], [0, 1, 2], [0, 1, 2, 3], [0, 1, 2, 3], [0, 1, 2, 3, 4, 5], [0, 1, 2, 3, 4, 5, 6], [0, 1, 2, 3], [0, 1, 2, 3], [0, 1, 2, 3, 8, 9], [0, 1, 2, 3, 8, 9, 10], [0, 1, 2, 3, 4, 5, 6, 7, 8, 9, 10, 11], [0, 1, 2, 3, 4, 5, 6, 7, 8, 9, 10, 11, 12], [0, 1, 2, 3, 4, 5, 6, 7, 8, 9, 10, 11, 12, 13]]))
 (.cond (.t 129) .skip (.exit 8)))
 (.block 9 (.ops [⟨(some 130), .mv (.t 11), none, false, []⟩,
   ⟨(some 131), .bin .sc .sub (.t 130) (.c (.int .i64 1)), none, false, []⟩,
   ⟨(some 11), .mv (.t 131), none, false, []⟩] none)))))
 (.seq (.seq (.ops [⟨(some 132), .mv (.t 10), none, false, []⟩,
   ⟨(some 133), .mv (.t 11), none, false, []⟩,
   ⟨(some 134), .bin .sc .gtr (.t 132) (.t 133), none, false, []⟩] none)
 (.cond (.t 134) (.exit 4) .skip))
 (.seq (.ops [⟨(some 135), .mv (.t 0), none, false, []⟩,
   ⟨(some 136), .mv (.t 10), none, false, []⟩,
   ⟨(some 137), .mv (.t 0), none, false, []⟩,
   ⟨(some 138), .mv (.t 11), none, false, []⟩,
   ⟨(some 139), .mv (.t 0), none, false, []⟩,
   ⟨(some 140), .mv (.t 11), none, false, []⟩,
   ⟨(some 141), .iaddr none 1 (.t 139) (.t 140), none, false, []⟩,
   ⟨(some 142), .load false 1 (.t 141), none, false, []⟩,
   ⟨(some 143), .mv (.t 0), none, false, []⟩,
   ⟨(some 144), .mv (.t 10), none, false, []⟩,
   ⟨(some 145), .iaddr none 1 (.t 143) (.t 144), none, false, []⟩,
   ⟨(some 146), .load false 1 (.t 145), none, false, []⟩,
   ⟨(some 147), .iaddr none 1 (.t 135) (.t 136), none, false, []⟩,
   ⟨none, .store 1 (.t 147) (.t 142), none, false, []⟩,
   ⟨(some 148), .iaddr none 1 (.t 137) (.t 138), none, false, []⟩,
   ⟨none, .store 1 (.t 148) (.t 146), none, false, []⟩] (some [[], [], [], [], [], [], [4, 5], [4, 5, 6], [], [], [8, 9], [8, 9, 10], [0, 1, 4, 5, 6, 7, 8, 9, 10, 11], [0, 1, 4, 5, 6, 7, 8, 9, 10, 11, 12], [0, 1, 2, 3, 4, 5, 6, 7, 8, 9, 10, 11, 12, 13], [0, 1, 2, 3, 4, 5, 6, 7, 8, 9, 10, 11, 12, 13, 14]]))
 (.seq (.ops [⟨(some 149), .mv (.t 10), none, false, []⟩,
   ⟨(some 150), .bin .sc .add (.t 149) (.c (.int .i64 1)), none, false, []⟩,
   ⟨(some 10), .mv (.t 150), none, false, []⟩] none)
 (.ops [⟨(some 151), .mv (.t 11), none, false, []⟩,
   ⟨(some 152), .bin .sc .sub (.t 151) (.c (.int .i64 1)), none, false, []⟩,
   ⟨(some 11), .mv (.t 152), none, false, []⟩] none)))))))))
 (.seq (.ops [⟨(some 153), .mv (.t 0), none, false, []⟩,
   ⟨(some 154), .mv (.t 11), none, false, []⟩,
   ⟨(some 155), .mv (.t 0), none, false, []⟩,
   ⟨(some 156), .mv (.t 1), none, false, []⟩,
   ⟨(some 157), .mv (.t 0), none, false, []⟩,
   ⟨(some 158), .mv (.t 1), none, false, []⟩,
   ⟨(some 159), .iaddr none 1 (.t 157) (.t 158), none, false, []⟩,
   ⟨(some 160), .load false 1 (.t 159), none, false, []⟩,
   ⟨(some 161), .mv (.t 0), none, false, []⟩,
   ⟨(some 162), .mv (.t 11), none, false, []⟩,
   ⟨(some 163), .iaddr none 1 (.t 161) (.t 162), none, false, []⟩,
   ⟨(some 164), .load false 1 (.t 163), none, false, []⟩,
   ⟨(some 165), .iaddr none 1 (.t 153) (.t 154), none, false, []⟩,
   ⟨none, .store 1 (.t 165) (.t 160), none, false, []⟩,
   ⟨(some 166), .iaddr none 1 (.t 155) (.t 156), none, false, []⟩,
   ⟨none, .store 1 (.t 166) (.t 164), none, false, []⟩] (some [[], [], [], [], [], [], [4, 5], [4, 5, 6], [], [], [8, 9], [8, 9, 10], [0, 1, 4, 5, 6, 7, 8, 9, 10, 11], [0, 1, 4, 5, 6, 7, 8, 9, 10, 11, 12], [0, 1, 2, 3, 4, 5, 6, 7, 8, 9, 10, 11, 12, 13], [0, 1, 2, 3, 4, 5, 6, 7, 8, 9, 10, 11, 12, 13, 14]]))
 (.seq (.ops [⟨(some 167), .mv (.t 11), none, false, []⟩,
   ⟨(some 8), .mv (.t 167), none, false, []⟩,
   ⟨(some 9), .mv (.c (.bool false)), none, false, []⟩] none)
 .ret)))))))))))) }
/- slices.siftDownOrdered[string] -/
def f131 : AFunc :=
 { np := 4, ntmps := 76, results := [], frz := false, body :=
 (.seq (.ops [⟨(some 10), .mv (.t 1), none, false, []⟩,
   ⟨(some 8), .mv (.t 10), none, false, []⟩] none)
 (.block 0 (.loop (.block 1 (.seq (.ops [⟨(some 11), .mv (.t 8), none, false, []⟩,
   ⟨(some 12), .bin .sc .mul (.c (.int .i64 2)) (.t 11), none, false, []⟩,
   ⟨(some 13), .bin .sc .add (.t 12) (.c (.int .i64 1)), none, false, []⟩,
   ⟨(some 9), .mv (.t 13), none, false, []⟩] none)
 (.seq (.seq (.ops [⟨(some 14), .mv (.t 9), none, false, []⟩,
   ⟨(some 15), .mv (.t 2), none, false, []⟩,
   ⟨(some 16), .bin .sc .geq (.t 14) (.t 15), none, false, []⟩] none)
 (.cond (.t 16) (.exit 0) .skip))
 (.seq (.seq (.ops [⟨(some 17), .mv (.t 9), none, false, []⟩,
   ⟨(some 18), .bin .sc .add (.t 17) (.c (.int .i64 1)), none, false, []⟩,
   ⟨(some 19), .mv (.t 2), none, false, []⟩,
   ⟨(some 20), .bin .sc .lss (.t 18) (.t 19), none, false, []⟩,
   ⟨(some 21), .mv (.t 20), none, false, []⟩,
   ⟨(some 22), .mv (.t 0), (some (21, true)), false, []⟩,
   ⟨(some 23), .mv (.t 3), (some (21, true)), false, []⟩,
   ⟨(some 24), .mv (.t 9), (some (21, true)), false, []⟩,
   ⟨(some 25), .bin .sc .add (.t 23) (.t 24), (some (21, true)), false, []⟩,
   ⟨(some 26), .iaddr none 1 (.t 22) (.t 25), (some (21, true)), false, []⟩,
   ⟨(some 27), .load false 1 (.t 26), (some (21, true)), false, []⟩,
   ⟨(some 28), .mv (.t 0), (some (21, true)), false, []⟩,
   ⟨(some 29), .mv (.t 3), (some (21, true)), false, []⟩,
   ⟨(some 30), .mv (.t 9), (some (21, true)), false, []⟩,
   ⟨(some 31), .bin .sc .add (.t 29) (.t 30), (some (21, true)), false, []⟩,
   ⟨(some 32), .bin .sc .add (.t 31) (.c (.int .i64 1)), (some (21, true)), false, []⟩,
   ⟨(some 33), .iaddr none 1 (.t 28) (.t 32), (some (21, true)), false, []⟩,
   ⟨(some 34), .load false 1 (.t 33), (some (21, true)), false, []⟩,
   ⟨(some 35), .call (.c (.func 126 [] [])) [(.t 27), (.t 34)], (some (21, true)), false, []⟩,
   ⟨(some 36), .pick (.t 21) (.t 35) (.c (.bool false)), none, false, []⟩] (some [[], [0], [], [0, 1, 2], [0, 1, 2, 3], [0, 1, 2, 3, 4], [0, 1, 2, 3, 4], [0, 1, 2, 3, 4], [0, 1, 2, 3, 4, 6, 7], [0, 1, 2, 3, 4, 5, 6, 7, 8], [0, 1, 2, 3, 4, 5, 6, 7, 8, 9], [0, 1, 2, 3, 4], [0, 1, 2, 3, 4], [0, 1, 2, 3, 4], [0, 1, 2, 3, 4, 12, 13], [0, 1, 2, 3, 4, 12, 13, 14], [0, 1, 2, 3, 4, 11, 12, 13, 14, 15], [0, 1, 2, 3, 4, 11, 12, 13, 14, 15, 16], [0, 1, 2, 3, 4, 5, 6, 7, 8, 9, 10, 11, 12, 13, 14, 15, 16, 17], [0, 1, 2, 3, 4, 5, 6, 7, 8, 9, 10, 11, 12, 13, 14, 15, 16, 17, 18]]))
 (.cond (.t 36) (.ops [⟨(some 37), .mv (.t 9), none, false, []⟩,
   ⟨(some 38), .bin .sc .add (.t 37) (.c (.int .i64 1)), none, false, []⟩,
   ⟨(some 9), .mv (.t 38), none, false, []⟩] none) .skip))
 (.seq (.seq (.ops [⟨(some 39), .mv (.t 0), none, false, []⟩,
   ⟨(some 40), .mv (.t 3), none, false, []⟩,
   ⟨(some 41), .mv (.t 8), none, false, []⟩,
   ⟨(some 42), .bin .sc .add (.t 40) (.t 41), none, false, []⟩,
   ⟨(some 43), .iaddr none 1 (.t 39) (.t 42), none, false, []⟩,
   ⟨(some 44), .load false 1 (.t 43), none, false, []⟩,
   ⟨(some 45), .mv (.t 0), none, false, []⟩,
   ⟨(some 46), .mv (.t 3), none, false, []⟩,
   ⟨(some 47), .mv (.t 9), none, false, []⟩,
   ⟨(some 48), .bin .sc .add (.t 46) (.t 47), none, false, []⟩,
   ⟨(some 49), .iaddr none 1 (.t 45) (.t 48), none, false, []⟩,
   ⟨(some 50), .load false 1 (.t 49), none, false, []⟩,
   ⟨(some 51), .call (.c (.func 126 [] [])) [(.t 44), (.t 50)], none, false, []⟩,
   ⟨(some 52), .not (.t 51), none, false, []⟩] (some [[], [], [], [1, 2], [0, 1, 2, 3], [0, 1, 2, 3, 4], [], [], [], [7, 8], [6, 7, 8, 9], [6, 7, 8, 9, 10], [0, 1, 2, 3, 4, 5, 6, 7, 8, 9, 10, 11], [0, 1, 2, 3, 4, 5, 6, 7, 8, 9, 10, 11, 12]]))
 (.cond (.t 52) .ret .skip))
 (.seq (.ops [⟨(some 53), .mv (.t 0), none, false, []⟩,
   ⟨(some 54), .mv (.t 3), none, false, []⟩,
   ⟨(some 55), .mv (.t 8), none, false, []⟩,
   ⟨(some 56), .bin .sc .add (.t 54) (.t 55), none, false, []⟩,
   ⟨(some 57), .mv (.t 0), none, false, []⟩,
   ⟨(some 58), .mv (.t 3), none, false, []⟩,
   ⟨(some 59), .mv (.t 9), none, false, []⟩,
   ⟨(some 60), .bin .sc .add (.t 58) (.t 59), none, false, []⟩,
   ⟨(some 61), .mv (.t 0), none, false, []⟩,
   ⟨(some 62), .mv (.t 3), none, false, []⟩,
   ⟨(some 63), .mv (.t 9), none, false, []⟩,
   ⟨(some 64), .bin .sc .add (.t 62) (.t 63), none, false, []⟩,
   ⟨(some 65), .iaddr none 1 (.t 61) (.t 64), none, false, []⟩,
   ⟨(some 66), .load false 1 (.t 65), none, false, []⟩,
   ⟨(some 67), .mv (.t 0), none, false, []⟩,
   ⟨(some 68), .mv (.t 3), none, false, []⟩,
   ⟨(some 69), .mv (.t 8), none, false, []⟩,
   ⟨(some 70), .bin .sc .add (.t 68) (.t 69), none, false, []⟩,
   ⟨(some 71), .iaddr none 1 (.t 67) (.t 70), none, false, []⟩,
   ⟨(some 72), .load false 1 (.t 71), none, false, []⟩,
   ⟨(some 73), .iaddr none 1 (.t 53) (.t 56), none, false, []⟩,
   ⟨none, .store 1 (.t 73) (.t 66), none, false, []⟩,
   ⟨(some 74), .iaddr none 1 (.t 57) (.t 60), none, false, []⟩,
   ⟨none, .store 1 (.t 74) (.t 72), none, false, []⟩] (some [[], [], [], [1, 2], [], [], [], [5, 6], [], [], [], [9, 10], [8, 9, 10, 11], [8, 9, 10, 11, 12], [], [], [], [15, 16], [14, 15, 16, 17], [14, 15, 16, 17, 18], [0, 1, 2, 3, 8, 9, 10, 11, 12, 13, 14, 15, 16, 17, 18, 19], [0, 1, 2, 3, 8, 9, 10, 11, 12, 13, 14, 15, 16, 17, 18, 19, 20], [0, 1, 2, 3, 4, 5, 6, 7, 8, 9, 10, 11, 12, 13, 14, 15, 16, 17, 18, 19, 20, 21], [0, 1, 2, 3, 4, 5, 6, 7, 8, 9, 10, 11, 12, 13, 14, 15, 16, 17, 18, 19, 20, 21, 22]]))
 (.ops [⟨(some 75), .mv (.t 9), none, false, []⟩,
   ⟨(some 8), .mv (.t 75), none, false, []⟩] none)))))))))) }
/- slices.medianAdjacentOrdered[string] -/
def f132 : AFunc :=
 { np := 3, ntmps := 15, results := [.tmp 6], frz := false, body :=
 (.seq (.ops [⟨(some 6), .mv (.c (.int .i64 0)), none, false, []⟩] none)
 (.seq (.ops [⟨(some 7), .mv (.t 0), none, false, []⟩,
   ⟨(some 8), .mv (.t 1), none, false, []⟩,
   ⟨(some 9), .bin .sc .sub (.t 8) (.c (.int .i64 1)), none, false, []⟩,
   ⟨(some 10), .mv (.t 1), none, false, []⟩,
   ⟨(some 11), .mv (.t 1), none, false, []⟩,
   ⟨(some 12), .bin .sc .add (.t 11) (.c (.int .i64 1)), none, false, []⟩,
   ⟨(some 13), .mv (.t 2), none, false, []⟩,
   ⟨(some 14), .call (.c (.func 133 [] [])) [(.t 7), (.t 9), (.t 10), (.t 12), (.t 13)], none, false, []⟩,
   ⟨(some 6), .mv (.t 14), none, false, []⟩] none)
 .ret)) }
/- slices.medianOrdered[string] -/
def f133 : AFunc :=
 { np := 5, ntmps := 36, results := [.tmp 10], frz := false, body :=
 (.seq (.ops [⟨(some 10), .mv (.c (.int .i64 0)), none, false, []⟩] none)
 (.seq (.ops [⟨(some 12), .mv (.t 0), none, false, []⟩,
   ⟨(some 13), .mv (.t 1), none, false, []⟩,
   ⟨(some 14), .mv (.t 2), none, false, []⟩,
   ⟨(some 15), .mv (.t 4), none, false, []⟩,
   ⟨(some 16), .call (.c (.func 136 [] [])) [(.t 12), (.t 13), (.t 14), (.t 15)], none, false, []⟩,
   ⟨(some 11), .mv (.t 16), none, false, []⟩,
   ⟨(some 17), .extract 0 (.t 11), none, false, []⟩,
   ⟨(some 18), .extract 1 (.t 11), none, false, []⟩,
   ⟨(some 1), .mv (.t 17), none, false, []⟩,
   ⟨(some 2), .mv (.t 18), none, false, []⟩] none)
 (.seq (.ops [⟨(some 20), .mv (.t 0), none, false, []⟩,
   ⟨(some 21), .mv (.t 2), none, false, []⟩,
   ⟨(some 22), .mv (.t 3), none, false, []⟩,
   ⟨(some 23), .mv (.t 4), none, false, []⟩,
   ⟨(some 24), .call (.c (.func 136 [] [])) [(.t 20), (.t 21), (.t 22), (.t 23)], none, false, []⟩,
   ⟨(some 19), .mv (.t 24), none, false, []⟩,
   ⟨(some 25), .extract 0 (.t 19), none, false, []⟩,
   ⟨(some 26), .extract 1 (.t 19), none, false, []⟩,
   ⟨(some 2), .mv (.t 25), none, false, []⟩,
   ⟨(some 3), .mv (.t 26), none, false, []⟩] none)
 (.seq (.ops [⟨(some 28), .mv (.t 0), none, false, []⟩,
   ⟨(some 29), .mv (.t 1), none, false, []⟩,
   ⟨(some 30), .mv (.t 2), none, false, []⟩,
   ⟨(some 31), .mv (.t 4), none, false, []⟩,
   ⟨(some 32), .call (.c (.func 136 [] [])) [(.t 28), (.t 29), (.t 30), (.t 31)], none, false, []⟩,
   ⟨(some 27), .mv (.t 32), none, false, []⟩,
   ⟨(some 33), .extract 0 (.t 27), none, false, []⟩,
   ⟨(some 34), .extract 1 (.t 27), none, false, []⟩,
   ⟨(some 1), .mv (.t 33), none, false, []⟩,
   ⟨(some 2), .mv (.t 34), none, false, []⟩] none)
 (.seq (.ops [⟨(some 35), .mv (.t 2), none, false, []⟩,
   ⟨(some 10), .mv (.t 35), none, false, []⟩] none)
 .ret))))) }
/- cmp.isNaN[string] -/
def f134 : AFunc :=
 { np := 1, ntmps := 6, results := [.tmp 2], frz := false, body :=
 (.seq (.ops [⟨(some 2), .mv (.c (.bool false)), none, false, []⟩] none)
 (.seq (.ops [⟨(some 3), .mv (.t 0), none, false, []⟩,
   ⟨(some 4), .mv (.t 0), none, false, []⟩,
   ⟨(some 5), .bin .sc .neq (.t 3) (.t 4), none, false, []⟩,
   ⟨(some 2), .mv (.t 5), none, false, []⟩] none)
 .ret)) }
/- slices.order2Ordered[string] -/
def f136 : AFunc :=
 { np := 4, ntmps := 28, results := [.tmp 8, .tmp 9], frz := false, body :=
 (.seq (.ops [⟨(some 8), .mv (.c (.int .i64 0)), none, false, []⟩,
   ⟨(some 9), .mv (.c (.int .i64 0)), none, false, []⟩] none)
 (.seq (.seq (.ops [⟨(some 10), .mv (.t 0), none, false, []⟩,
   ⟨(some 11), .mv (.t 2), none, false, []⟩,
   ⟨(some 12), .iaddr none 1 (.t 10) (.t 11), none, false, []⟩,
   ⟨(some 13), .load false 1 (.t 12), none, false, []⟩,
   ⟨(some 14), .mv (.t 0), none, false, []⟩,
   ⟨(some 15), .mv (.t 1), none, false, []⟩,
   ⟨(some 16), .iaddr none 1 (.t 14) (.t 15), none, false, []⟩,
   ⟨(some 17), .load false 1 (.t 16), none, false, []⟩,
   ⟨(some 18), .call (.c (.func 126 [] [])) [(.t 13), (.t 17)], none, false, []⟩] (some [[], [], [0, 1], [0, 1, 2], [], [], [4, 5], [4, 5, 6], [0, 1, 2, 3, 4, 5, 6, 7]]))
 (.cond (.t 18) (.seq (.ops [⟨(some 19), .mv (.t 3), none, false, []⟩,
   ⟨(some 20), .nilck (.t 19), none, false, []⟩,
   ⟨(some 21), .load false 1 (.t 20), none, false, []⟩,
   ⟨(some 22), .bin .sc .add (.t 21) (.c (.int .i64 1)), none, false, []⟩,
   ⟨(some 23), .nilck (.t 19), none, false, []⟩,
   ⟨none, .store 1 (.t 23) (.t 22), none, false, []⟩] none)
 (.seq (.ops [⟨(some 24), .mv (.t 2), none, false, []⟩,
   ⟨(some 25), .mv (.t 1), none, false, []⟩,
   ⟨(some 8), .mv (.t 24), none, false, []⟩,
   ⟨(some 9), .mv (.t 25), none, false, []⟩] none)
 .ret)) .skip))
 (.seq (.ops [⟨(some 26), .mv (.t 1), none, false, []⟩,
   ⟨(some 27), .mv (.t 2), none, false, []⟩,
   ⟨(some 8), .mv (.t 26), none, false, []⟩,
   ⟨(some 9), .mv (.t 27), none, false, []⟩] none)
 .ret))) }
end Go.Am.DataWrong
