/- The code of the functions, for the abstract machine: printed by a program of this claim. -/
import Derived.Test.YtjjcongjjikifaaAmA
set_option maxRecDepth 100000
namespace Go.Am.Infer
open Go.Am
/- warplaw21.InferKnown -/
def f3 : AFunc :=
 { np := 1, ntmps := 39, results := [.tmp 2], frz := false, body :=
 (.seq (.ops [⟨(some 2), .mv (.c (.bool false)), none, false, []⟩] none)
 (.seq (.ops [⟨(some 5), .build [.str [], .str []] [(0, 1, (.c (.str [108, 101, 116, 32, 107, 32, 120, 32, 121, 32, 61, 32, 120, 59]))), (1, 1, (.c (.str [97, 32, 45, 62, 32, 98, 32, 45, 62, 32, 97])))], none, false, []⟩,
   ⟨(some 6), .build [.str [], .str []] [(0, 1, (.c (.str [108, 101, 116, 32, 115, 32, 102, 32, 103, 32, 120, 32, 61, 32, 102, 32, 120, 32, 40, 103, 32, 120, 41, 59]))), (1, 1, (.c (.str [40, 97, 32, 45, 62, 32, 98, 32, 45, 62, 32, 99, 41, 32, 45, 62, 32, 40, 97, 32, 45, 62, 32, 98, 41, 32, 45, 62, 32, 97, 32, 45, 62, 32, 99])))], none, false, []⟩,
   ⟨(some 7), .build [.str [], .str []] [(0, 1, (.c (.str [108, 101, 116, 32, 102, 105, 120, 32, 102, 32, 61, 32, 102, 32, 40, 102, 105, 120, 32, 102, 41, 59]))), (1, 1, (.c (.str [40, 97, 32, 45, 62, 32, 97, 41, 32, 45, 62, 32, 97])))], none, false, []⟩,
   ⟨(some 8), .build [.str [], .str []] [(0, 1, (.c (.str [108, 101, 116, 32, 112, 32, 61, 32, 108, 101, 116, 32, 105, 100, 32, 61, 32, 92, 120, 32, 45, 62, 32, 120, 32, 105, 110, 32, 40, 105, 100, 32, 49, 44, 32, 105, 100, 32, 116, 114, 117, 101, 41, 59]))), (1, 1, (.c (.str [40, 73, 110, 116, 44, 32, 66, 111, 111, 108, 41])))], none, false, []⟩,
   ⟨(some 9), .build [.str [], .str []] [(0, 1, (.c (.str [108, 101, 116, 32, 109, 97, 112, 32, 102, 32, 108, 32, 61, 32, 99, 97, 115, 101, 32, 108, 32, 111, 102, 32, 123, 78, 105, 108, 32, 45, 62, 32, 78, 105, 108, 59, 32, 67, 111, 110, 115, 32, 120, 32, 114, 32, 45, 62, 32, 67, 111, 110, 115, 32, 40, 102, 32, 120, 41, 32, 40, 109, 97, 112, 32, 102, 32, 114, 41, 125, 59]))), (1, 1, (.c (.str [40, 97, 32, 45, 62, 32, 98, 41, 32, 45, 62, 32, 76, 105, 115, 116, 32, 97, 32, 45, 62, 32, 76, 105, 115, 116, 32, 98])))], none, false, []⟩,
   ⟨(some 10), .build [.str [], .str []] [(0, 1, (.c (.str [108, 101, 116, 32, 111, 32, 61, 32, 79, 100, 100, 59]))), (1, 1, (.c (.str [40, 97, 32, 45, 62, 32, 98, 41, 32, 45, 62, 32, 40, 97, 44, 32, 73, 110, 116, 41, 32, 45, 62, 32, 70, 32, 97, 32, 98])))], none, false, []⟩,
   ⟨(some 11), .build [.str [], .str []] [(0, 1, (.c (.str [108, 101, 116, 32, 98, 32, 120, 32, 61, 32, 105, 102, 32, 120, 32, 116, 104, 101, 110, 32, 49, 32, 101, 108, 115, 101, 32, 50, 59]))), (1, 1, (.c (.str [66, 111, 111, 108, 32, 45, 62, 32, 73, 110, 116])))], none, false, []⟩,
   ⟨(some 12), .build [.str [], .str []] [(0, 1, (.c (.str [108, 101, 116, 32, 116, 32, 61, 32, 92, 120, 32, 45, 62, 32, 108, 101, 116, 32, 121, 32, 61, 32, 120, 32, 105, 110, 32, 40, 121, 44, 32, 121, 41, 59]))), (1, 1, (.c (.str [97, 32, 45, 62, 32, 40, 97, 44, 32, 97, 41])))], none, false, []⟩,
   ⟨(some 13), .build [.str [], .str []] [(0, 1, (.c (.str [108, 101, 116, 32, 119, 32, 102, 32, 61, 32, 40, 102, 32, 49, 44, 32, 102, 32, 50, 41, 59]))), (1, 1, (.c (.str [40, 73, 110, 116, 32, 45, 62, 32, 97, 41, 32, 45, 62, 32, 40, 97, 44, 32, 97, 41])))], none, false, []⟩,
   ⟨(some 14), .build [.str [], .str []] [(0, 1, (.c (.str [108, 101, 116, 32, 99, 32, 102, 32, 103, 32, 120, 32, 61, 32, 102, 32, 40, 103, 32, 120, 41, 59]))), (1, 1, (.c (.str [40, 97, 32, 45, 62, 32, 98, 41, 32, 45, 62, 32, 40, 99, 32, 45, 62, 32, 97, 41, 32, 45, 62, 32, 99, 32, 45, 62, 32, 98])))], none, false, []⟩,
   ⟨(some 15), .build [.str [], .str []] [(0, 1, (.c (.str [108, 101, 116, 32, 108, 111, 111, 112, 32, 120, 32, 61, 32, 108, 111, 111, 112, 32, 120, 59]))), (1, 1, (.c (.str [97, 32, 45, 62, 32, 98])))], none, false, []⟩,
   ⟨(some 16), .build [.str [], .str []] [(0, 1, (.c (.str [108, 101, 116, 32, 110, 32, 61, 32, 78, 105, 108, 59]))), (1, 1, (.c (.str [76, 105, 115, 116, 32, 97])))], none, false, []⟩,
   ⟨(some 17), .build [.str [], .str []] [(0, 1, (.c (.str [108, 101, 116, 32, 101, 32, 61, 32, 92, 102, 32, 45, 62, 32, 108, 101, 116, 32, 103, 32, 61, 32, 102, 32, 105, 110, 32, 40, 103, 32, 49, 44, 32, 103, 32, 50, 41, 59]))), (1, 1, (.c (.str [40, 73, 110, 116, 32, 45, 62, 32, 97, 41, 32, 45, 62, 32, 40, 97, 44, 32, 97, 41])))], none, false, []⟩,
   ⟨(some 18), .bslice false 13 [.str [], .str [], .str [], .str [], .str [], .str [], .str [], .str [], .str [], .str [], .str [], .str [], .str [], .str [], .str [], .str [], .str [], .str [], .str [], .str [], .str [], .str [], .str [], .str [], .str [], .str []] [(0, 2, (.t 5)), (2, 2, (.t 6)), (4, 2, (.t 7)), (6, 2, (.t 8)), (8, 2, (.t 9)), (10, 2, (.t 10)), (12, 2, (.t 11)), (14, 2, (.t 12)), (16, 2, (.t 13)), (18, 2, (.t 14)), (20, 2, (.t 15)), (22, 2, (.t 16)), (24, 2, (.t 17))], none, false, []⟩,
   ⟨(some 3), .mv (.t 18), none, false, []⟩] none)
 (.seq (.ops [⟨(some 19), .mv (.t 0), none, false, []⟩,
   ⟨(some 20), .cint .i64 (.t 19), none, false, []⟩,
   ⟨(some 21), .mv (.t 3), none, false, []⟩,
   ⟨(some 22), .len 1 (.t 21), none, false, []⟩,
   ⟨(some 23), .bin .sc .rem (.t 20) (.t 22), none, false, []⟩,
   ⟨(some 4), .mv (.t 23), none, false, []⟩] none)
 (.seq (.ops [⟨(some 24), .mv (.t 3), none, false, []⟩,
   ⟨(some 25), .mv (.t 4), none, false, []⟩,
   ⟨(some 26), .iaddr none 2 (.t 24) (.t 25), none, false, []⟩,
   ⟨(some 27), .iaddr (some 2) 1 (.t 26) (.c (.int .i64 0)), none, false, []⟩,
   ⟨(some 28), .load false 1 (.t 27), none, false, []⟩,
   ⟨(some 29), .call (.c (.func 10 [] [])) [(.t 28)], none, false, []⟩,
   ⟨(some 30), .mv (.t 3), none, false, []⟩,
   ⟨(some 31), .mv (.t 4), none, false, []⟩,
   ⟨(some 32), .iaddr none 2 (.t 30) (.t 31), none, false, []⟩,
   ⟨(some 33), .iaddr (some 2) 1 (.t 32) (.c (.int .i64 1)), none, false, []⟩,
   ⟨(some 34), .load false 1 (.t 33), none, true, []⟩,
   ⟨(some 35), .bin .sc .eql (.t 29) (.t 34), none, false, []⟩,
   ⟨(some 36), .mv (.t 35), none, false, []⟩,
   ⟨(some 37), .call (.c (.func 11 [] [])) [], (some (36, true)), false, []⟩,
   ⟨(some 38), .pick (.t 36) (.t 37) (.c (.bool false)), none, false, []⟩,
   ⟨(some 2), .mv (.t 38), none, false, []⟩] (some [[], [], [0, 1], [0, 1, 2], [0, 1, 2, 3], [0, 1, 2, 3, 4], [], [], [6, 7], [6, 7, 8], [6, 7, 8, 9], [0, 1, 2, 3, 4, 5, 6, 7, 8, 9, 10], [0, 1, 2, 3, 4, 5, 6, 7, 8, 9, 10, 11], [0, 1, 2, 3, 4, 5, 6, 7, 8, 9, 10, 11, 12], [0, 1, 2, 3, 4, 5, 6, 7, 8, 9, 10, 11, 12, 13], [0, 1, 2, 3, 4, 5, 6, 7, 8, 9, 10, 11, 12, 13, 14]]))
 .ret)))) }
/- warplaw21.InferBad -/
def f4 : AFunc :=
 { np := 1, ntmps := 18, results := [.tmp 2], frz := false, body :=
 (.seq (.ops [⟨(some 2), .mv (.c (.bool false)), none, false, []⟩] none)
 (.seq (.ops [⟨(some 4), .bslice false 12 [.str [], .str [], .str [], .str [], .str [], .str [], .str [], .str [], .str [], .str [], .str [], .str []] [(0, 1, (.c (.str [108, 101, 116, 32, 102, 32, 120, 32, 61, 32, 120, 32, 120, 59]))), (1, 1, (.c (.str [108, 101, 116, 32, 102, 32, 61, 32, 116, 114, 117, 101, 32, 49, 59]))), (2, 1, (.c (.str [108, 101, 116, 32, 102, 32, 61, 32, 105, 102, 32, 49, 32, 116, 104, 101, 110, 32, 50, 32, 101, 108, 115, 101, 32, 51, 59]))), (3, 1, (.c (.str [108, 101, 116, 32, 102, 32, 61, 32, 105, 102, 32, 116, 114, 117, 101, 32, 116, 104, 101, 110, 32, 49, 32, 101, 108, 115, 101, 32, 116, 114, 117, 101, 59]))), (4, 1, (.c (.str [108, 101, 116, 32, 102, 32, 103, 32, 61, 32, 40, 103, 32, 49, 44, 32, 103, 32, 116, 114, 117, 101, 41, 59]))), (5, 1, (.c (.str [108, 101, 116, 32, 102, 32, 61, 32, 99, 97, 115, 101, 32, 78, 105, 108, 32, 111, 102, 32, 123, 78, 111, 110, 101, 32, 45, 62, 32, 49, 125, 59]))), (6, 1, (.c (.str [108, 101, 116, 32, 102, 32, 61, 32, 99, 97, 115, 101, 32, 78, 105, 108, 32, 111, 102, 32, 123, 78, 105, 108, 32, 45, 62, 32, 49, 59, 32, 67, 111, 110, 115, 32, 97, 32, 98, 32, 45, 62, 32, 98, 125, 59]))), (7, 1, (.c (.str [108, 101, 116, 32, 102, 32, 61, 32, 67, 111, 110, 115, 32, 49, 32, 40, 67, 111, 110, 115, 32, 116, 114, 117, 101, 32, 78, 105, 108, 41, 59]))), (8, 1, (.c (.str [108, 101, 116, 32, 102, 32, 61, 32, 92, 103, 32, 45, 62, 32, 108, 101, 116, 32, 104, 32, 61, 32, 103, 32, 105, 110, 32, 40, 104, 32, 49, 44, 32, 104, 32, 116, 114, 117, 101, 41, 59]))), (9, 1, (.c (.str [108, 101, 116, 32, 102, 32, 120, 32, 61, 32, 102, 59]))), (10, 1, (.c (.str [108, 101, 116, 32, 102, 32, 61, 32, 40, 49, 44, 32, 50, 41, 32, 51, 59]))), (11, 1, (.c (.str [108, 101, 116, 32, 102, 32, 61, 32, 79, 100, 100, 32, 49, 59])))], none, false, []⟩,
   ⟨(some 3), .mv (.t 4), none, false, []⟩] none)
 (.seq (.ops [⟨(some 5), .mv (.t 3), none, false, []⟩,
   ⟨(some 6), .mv (.t 0), none, false, []⟩,
   ⟨(some 7), .cint .i64 (.t 6), none, false, []⟩,
   ⟨(some 8), .mv (.t 3), none, false, []⟩,
   ⟨(some 9), .len 1 (.t 8), none, false, []⟩,
   ⟨(some 10), .bin .sc .rem (.t 7) (.t 9), none, false, []⟩,
   ⟨(some 11), .iaddr none 1 (.t 5) (.t 10), none, false, []⟩,
   ⟨(some 12), .load false 1 (.t 11), none, false, []⟩,
   ⟨(some 13), .call (.c (.func 10 [] [])) [(.t 12)], none, false, []⟩,
   ⟨(some 14), .bin .sc .eql (.t 13) (.c (.str [])), none, false, []⟩,
   ⟨(some 15), .mv (.t 14), none, false, []⟩,
   ⟨(some 16), .call (.c (.func 11 [] [])) [], (some (15, true)), false, []⟩,
   ⟨(some 17), .pick (.t 15) (.t 16) (.c (.bool false)), none, false, []⟩,
   ⟨(some 2), .mv (.t 17), none, false, []⟩] none)
 .ret))) }
/- warplaw21.InferShadow -/
def f5 : AFunc :=
 { np := 2, ntmps := 101, results := [.tmp 4], frz := false, body :=
 (.seq (.ops [⟨(some 4), .mv (.c (.bool false)), none, false, []⟩] none)
 (.seq (.seq (.ops [⟨(some 14), .mv (.t 0), none, false, []⟩,
   ⟨(some 15), .len 1 (.t 14), none, false, []⟩,
   ⟨(some 16), .bin .sc .gtr (.t 15) (.c (.int .i64 8)), none, false, []⟩] none)
 (.cond (.t 16) (.seq (.ops [⟨(some 17), .call (.c (.func 11 [] [])) [], none, false, []⟩,
   ⟨(some 4), .mv (.t 17), none, false, []⟩] none)
 .ret) .skip))
 (.seq (.ops [⟨(some 18), .mv (.t 0), none, false, []⟩,
   ⟨(some 19), .call (.c (.func 13 [] [])) [(.t 18), (.c (.int .i64 3))], none, false, []⟩,
   ⟨(some 20), .call (.c (.func 12 [] [])) [(.t 19)], none, false, []⟩,
   ⟨(some 21), .build [.str [], .int .i64 0, .int .i64 0, .int .i64 0, .str [], .pl [] 0 .nil] [(0, 1, (.c (.str [120]))), (1, 5, (.t 20))], none, false, []⟩,
   ⟨(some 22), .call (.c (.func 14 [] [])) [(.c (.int .i64 0))], none, false, []⟩,
   ⟨(some 23), .call (.c (.func 12 [] [])) [(.t 22)], none, false, []⟩,
   ⟨(some 24), .build [.str [], .int .i64 0, .int .i64 0, .int .i64 0, .str [], .pl [] 0 .nil] [(0, 1, (.c (.str [120]))), (1, 5, (.t 23))], none, false, []⟩,
   ⟨(some 25), .bslice false 2 [.str [], .int .i64 0, .int .i64 0, .int .i64 0, .str [], .pl [] 0 .nil, .str [], .int .i64 0, .int .i64 0, .int .i64 0, .str [], .pl [] 0 .nil] [(0, 6, (.t 21)), (6, 6, (.t 24))], none, false, []⟩,
   ⟨(some 5), .mv (.t 25), none, false, []⟩] none)
 (.seq (.ops [⟨(some 26), .build [.str [], .str []] [(0, 1, (.c (.str [108, 101, 116, 32, 102, 32, 61, 32, 92, 120, 32, 45, 62, 32, 92, 120, 32, 45, 62, 32, 120, 59]))), (1, 1, (.c (.str [97, 32, 45, 62, 32, 98, 32, 45, 62, 32, 98])))], none, false, []⟩,
   ⟨(some 27), .build [.str [], .str []] [(0, 1, (.c (.str [108, 101, 116, 32, 102, 32, 120, 32, 61, 32, 108, 101, 116, 32, 120, 32, 61, 32, 49, 32, 105, 110, 32, 120, 59]))), (1, 1, (.c (.str [97, 32, 45, 62, 32, 73, 110, 116])))], none, false, []⟩,
   ⟨(some 28), .build [.str [], .str []] [(0, 1, (.c (.str [108, 101, 116, 32, 102, 32, 120, 32, 61, 32, 99, 97, 115, 101, 32, 120, 32, 111, 102, 32, 123, 83, 111, 109, 101, 32, 120, 32, 45, 62, 32, 120, 59, 32, 78, 111, 110, 101, 32, 45, 62, 32, 49, 125, 59]))), (1, 1, (.c (.str [79, 112, 116, 32, 73, 110, 116, 32, 45, 62, 32, 73, 110, 116])))], none, false, []⟩,
   ⟨(some 29), .build [.str [], .str []] [(0, 1, (.c (.str [108, 101, 116, 32, 102, 32, 61, 32, 108, 101, 116, 32, 120, 32, 61, 32, 116, 114, 117, 101, 32, 105, 110, 32, 108, 101, 116, 32, 120, 32, 61, 32, 120, 32, 105, 110, 32, 120, 59]))), (1, 1, (.c (.str [66, 111, 111, 108])))], none, false, []⟩,
   ⟨(some 30), .build [.str [], .str []] [(0, 1, (.c (.str [108, 101, 116, 32, 120, 32, 61, 32, 53, 59]))), (1, 1, (.c (.str [73, 110, 116])))], none, false, []⟩,
   ⟨(some 31), .bslice false 5 [.str [], .str [], .str [], .str [], .str [], .str [], .str [], .str [], .str [], .str []] [(0, 2, (.t 26)), (2, 2, (.t 27)), (4, 2, (.t 28)), (6, 2, (.t 29)), (8, 2, (.t 30))], none, false, []⟩,
   ⟨(some 6), .mv (.t 31), none, false, []⟩] none)
 (.seq (.ops [⟨(some 32), .mv (.t 6), none, false, []⟩,
   ⟨(some 33), .mv (.t 1), none, false, []⟩,
   ⟨(some 34), .cint .i64 (.t 33), none, false, []⟩,
   ⟨(some 35), .mv (.t 6), none, false, []⟩,
   ⟨(some 36), .len 1 (.t 35), none, false, []⟩,
   ⟨(some 37), .bin .sc .rem (.t 34) (.t 36), none, false, []⟩,
   ⟨(some 38), .iaddr none 2 (.t 32) (.t 37), none, false, []⟩,
   ⟨(some 39), .load true 2 (.t 38), none, false, []⟩,
   ⟨(some 7), .alloc true [.str [], .str []], none, false, []⟩,
   ⟨none, .store 2 (.t 7) (.t 39), none, false, []⟩] none)
 (.seq (.ops [⟨(some 40), .iaddr (some 2) 1 (.t 7) (.c (.int .i64 0)), none, false, []⟩,
   ⟨(some 41), .load false 1 (.t 40), none, false, []⟩,
   ⟨(some 42), .call (.c (.func 15 [] [])) [(.t 41)], none, false, []⟩,
   ⟨(some 8), .alloc true [.pl [] 0 .nil, .pl [] 0 .nil], none, false, []⟩,
   ⟨none, .store 2 (.t 8) (.t 42), none, false, []⟩] none)
 (.seq (.ops [⟨(some 44), .mv (.t 5), none, false, []⟩,
   ⟨(some 45), .faddr 0 (.t 8), none, false, []⟩,
   ⟨(some 46), .load false 1 (.t 45), none, false, []⟩,
   ⟨(some 47), .faddr 1 (.t 8), none, false, []⟩,
   ⟨(some 48), .load false 1 (.t 47), none, false, []⟩,
   ⟨(some 49), .call (.c (.func 16 [] [])) [(.t 44), (.t 46), (.t 48)], none, false, []⟩,
   ⟨(some 43), .mv (.t 49), none, false, []⟩,
   ⟨(some 50), .extract 0 (.t 43), none, false, []⟩,
   ⟨(some 51), .extract 1 (.t 43), none, false, []⟩,
   ⟨(some 9), .mv (.t 50), none, false, []⟩,
   ⟨(some 10), .mv (.t 51), none, false, []⟩] none)
 (.seq (.ops [⟨(some 52), .call (.c (.func 15 [] [])) [(.c (.str [108, 101, 116, 32, 103, 32, 61, 32, 120, 59]))], none, false, []⟩,
   ⟨(some 11), .alloc true [.pl [] 0 .nil, .pl [] 0 .nil], none, false, []⟩,
   ⟨none, .store 2 (.t 11) (.t 52), none, false, []⟩] none)
 (.seq (.ops [⟨(some 54), .mv (.t 5), none, false, []⟩,
   ⟨(some 55), .faddr 0 (.t 11), none, false, []⟩,
   ⟨(some 56), .load false 1 (.t 55), none, false, []⟩,
   ⟨(some 57), .faddr 1 (.t 11), none, false, []⟩,
   ⟨(some 58), .load false 1 (.t 57), none, false, []⟩,
   ⟨(some 59), .call (.c (.func 16 [] [])) [(.t 54), (.t 56), (.t 58)], none, false, []⟩,
   ⟨(some 53), .mv (.t 59), none, false, []⟩,
   ⟨(some 60), .extract 0 (.t 53), none, false, []⟩,
   ⟨(some 61), .extract 1 (.t 53), none, false, []⟩,
   ⟨(some 12), .mv (.t 60), none, false, []⟩,
   ⟨(some 13), .mv (.t 61), none, false, []⟩] none)
 (.seq (.ops [⟨(some 62), .mv (.t 10), none, false, []⟩,
   ⟨(some 63), .call (.c (.func 17 [] [])) [(.t 62)], none, false, []⟩,
   ⟨(some 64), .mv (.t 13), none, false, []⟩,
   ⟨(some 65), .call (.c (.func 17 [] [])) [(.t 64)], none, false, []⟩,
   ⟨(some 66), .bin .sc .add (.t 63) (.t 65), none, false, []⟩,
   ⟨(some 67), .bin .sc .eql (.t 66) (.c (.int .i64 0)), none, false, []⟩,
   ⟨(some 68), .mv (.t 67), none, false, []⟩,
   ⟨(some 69), .mv (.t 9), (some (68, true)), false, []⟩,
   ⟨(some 70), .len 1 (.t 69), (some (68, true)), false, []⟩,
   ⟨(some 71), .bin .sc .eql (.t 70) (.c (.int .i64 1)), (some (68, true)), false, []⟩,
   ⟨(some 72), .pick (.t 68) (.t 71) (.c (.bool false)), none, false, []⟩,
   ⟨(some 73), .mv (.t 72), none, false, []⟩,
   ⟨(some 74), .mv (.t 12), (some (73, true)), false, []⟩,
   ⟨(some 75), .len 1 (.t 74), (some (73, true)), false, []⟩,
   ⟨(some 76), .bin .sc .eql (.t 75) (.c (.int .i64 1)), (some (73, true)), false, []⟩,
   ⟨(some 77), .pick (.t 73) (.t 76) (.c (.bool false)), none, false, []⟩,
   ⟨(some 78), .mv (.t 77), none, false, []⟩,
   ⟨(some 79), .mv (.t 9), (some (78, true)), false, []⟩,
   ⟨(some 80), .iaddr none 5 (.t 79) (.c (.int .i64 0)), (some (78, true)), false, []⟩,
   ⟨(some 81), .faddr 1 (.t 80), (some (78, true)), false, []⟩,
   ⟨(some 82), .load true 4 (.t 81), (some (78, true)), false, []⟩,
   ⟨(some 83), .call (.c (.func 18 [] [])) [(.t 82)], (some (78, true)), false, []⟩,
   ⟨(some 84), .iaddr (some 2) 1 (.t 7) (.c (.int .i64 1)), (some (78, true)), false, []⟩,
   ⟨(some 85), .load false 1 (.t 84), (some (78, true)), true, []⟩,
   ⟨(some 86), .bin .sc .eql (.t 83) (.t 85), (some (78, true)), false, []⟩,
   ⟨(some 87), .pick (.t 78) (.t 86) (.c (.bool false)), none, false, []⟩,
   ⟨(some 88), .mv (.t 87), none, false, []⟩,
   ⟨(some 89), .mv (.t 12), (some (88, true)), false, []⟩,
   ⟨(some 90), .iaddr none 5 (.t 89) (.c (.int .i64 0)), (some (88, true)), false, []⟩,
   ⟨(some 91), .load true 5 (.t 90), (some (88, true)), false, []⟩,
   ⟨(some 92), .mv (.t 5), (some (88, true)), false, []⟩,
   ⟨(some 93), .iaddr none 6 (.t 92) (.c (.int .i64 0)), (some (88, true)), false, []⟩,
   ⟨(some 94), .faddr 1 (.t 93), (some (88, true)), false, []⟩,
   ⟨(some 95), .load true 5 (.t 94), (some (88, true)), false, []⟩,
   ⟨(some 96), .call (.c (.func 19 [] [])) [(.t 91), (.t 95)], (some (88, true)), false, []⟩,
   ⟨(some 97), .pick (.t 88) (.t 96) (.c (.bool false)), none, false, []⟩,
   ⟨(some 98), .mv (.t 97), none, false, []⟩,
   ⟨(some 99), .call (.c (.func 11 [] [])) [], (some (98, true)), false, []⟩,
   ⟨(some 100), .pick (.t 98) (.t 99) (.c (.bool false)), none, false, []⟩,
   ⟨(some 4), .mv (.t 100), none, false, []⟩] (some [[], [0], [], [0, 1, 2], [0, 1, 2, 3], [0, 1, 2, 3, 4], [0, 1, 2, 3, 4, 5], [0, 1, 2, 3, 4, 5, 6], [0, 1, 2, 3, 4, 5, 6, 7], [0, 1, 2, 3, 4, 5, 6, 7, 8], [0, 1, 2, 3, 4, 5, 6, 7, 8, 9], [0, 1, 2, 3, 4, 5, 6, 7, 8, 9, 10], [0, 1, 2, 3, 4, 5, 6, 7, 8, 9, 10, 11], [0, 1, 2, 3, 4, 5, 6, 7, 8, 9, 10, 11, 12], [0, 1, 2, 3, 4, 5, 6, 7, 8, 9, 10, 11, 12, 13], [0, 1, 2, 3, 4, 5, 6, 7, 8, 9, 10, 11, 12, 13, 14], [0, 1, 2, 3, 4, 5, 6, 7, 8, 9, 10, 11, 12, 13, 14, 15], [0, 1, 2, 3, 4, 5, 6, 7, 8, 9, 10, 11, 12, 13, 14, 15, 16], [0, 1, 2, 3, 4, 5, 6, 7, 8, 9, 10, 11, 12, 13, 14, 15, 16, 17], [0, 1, 2, 3, 4, 5, 6, 7, 8, 9, 10, 11, 12, 13, 14, 15, 16, 17, 18], [0, 1, 2, 3, 4, 5, 6, 7, 8, 9, 10, 11, 12, 13, 14, 15, 16, 17, 18, 19], [0, 1, 2, 3, 4, 5, 6, 7, 8, 9, 10, 11, 12, 13, 14, 15, 16, 17, 18, 19, 20], [0, 1, 2, 3, 4, 5, 6, 7, 8, 9, 10, 11, 12, 13, 14, 15, 16], [0, 1, 2, 3, 4, 5, 6, 7, 8, 9, 10, 11, 12, 13, 14, 15, 16, 22], [0, 1, 2, 3, 4, 5, 6, 7, 8, 9, 10, 11, 12, 13, 14, 15, 16, 17, 18, 19, 20, 21, 22, 23], [0, 1, 2, 3, 4, 5, 6, 7, 8, 9, 10, 11, 12, 13, 14, 15, 16, 17, 18, 19, 20, 21, 22, 23, 24], [0, 1, 2, 3, 4, 5, 6, 7, 8, 9, 10, 11, 12, 13, 14, 15, 16, 17, 18, 19, 20, 21, 22, 23, 24, 25], [0, 1, 2, 3, 4, 5, 6, 7, 8, 9, 10, 11, 12, 13, 14, 15, 16, 17, 18, 19, 20, 21, 22, 23, 24, 25, 26], [0, 1, 2, 3, 4, 5, 6, 7, 8, 9, 10, 11, 12, 13, 14, 15, 16, 17, 18, 19, 20, 21, 22, 23, 24, 25, 26, 27], [0, 1, 2, 3, 4, 5, 6, 7, 8, 9, 10, 11, 12, 13, 14, 15, 16, 17, 18, 19, 20, 21, 22, 23, 24, 25, 26, 27, 28], [0, 1, 2, 3, 4, 5, 6, 7, 8, 9, 10, 11, 12, 13, 14, 15, 16, 17, 18, 19, 20, 21, 22, 23, 24, 25, 26], [0, 1, 2, 3, 4, 5, 6, 7, 8, 9, 10, 11, 12, 13, 14, 15, 16, 17, 18, 19, 20, 21, 22, 23, 24, 25, 26, 30], [0, 1, 2, 3, 4, 5, 6, 7, 8, 9, 10, 11, 12, 13, 14, 15, 16, 17, 18, 19, 20, 21, 22, 23, 24, 25, 26, 30, 31], [0, 1, 2, 3, 4, 5, 6, 7, 8, 9, 10, 11, 12, 13, 14, 15, 16, 17, 18, 19, 20, 21, 22, 23, 24, 25, 26, 30, 31, 32], [0, 1, 2, 3, 4, 5, 6, 7, 8, 9, 10, 11, 12, 13, 14, 15, 16, 17, 18, 19, 20, 21, 22, 23, 24, 25, 26, 27, 28, 29, 30, 31, 32, 33], [0, 1, 2, 3, 4, 5, 6, 7, 8, 9, 10, 11, 12, 13, 14, 15, 16, 17, 18, 19, 20, 21, 22, 23, 24, 25, 26, 27, 28, 29, 30, 31, 32, 33, 34], [0, 1, 2, 3, 4, 5, 6, 7, 8, 9, 10, 11, 12, 13, 14, 15, 16, 17, 18, 19, 20, 21, 22, 23, 24, 25, 26, 27, 28, 29, 30, 31, 32, 33, 34, 35], [0, 1, 2, 3, 4, 5, 6, 7, 8, 9, 10, 11, 12, 13, 14, 15, 16, 17, 18, 19, 20, 21, 22, 23, 24, 25, 26, 27, 28, 29, 30, 31, 32, 33, 34, 35, 36], [0, 1, 2, 3, 4, 5, 6, 7, 8, 9, 10, 11, 12, 13, 14, 15, 16, 17, 18, 19, 20, 21, 22, 23, 24, 25, 26, 27, 28, 29, 30, 31, 32, 33, 34, 35, 36, 37], [0, 1, 2, 3, 4, 5, 6, 7, 8, 9, 10, 11, 12, 13, 14, 15, 16, 17, 18, 19, 20, 21, 22, 23, 24, 25, 26, 27, 28, 29, 30, 31, 32, 33, 34, 35, 36, 37, 38]]))
 .ret)))))))))) }
/- warplaw21.InferGroup -/
def f6 : AFunc :=
 { np := 1, ntmps := 80, results := [.tmp 2], frz := false, body :=
 (.seq (.ops [⟨(some 2), .mv (.c (.bool false)), none, false, []⟩] none)
 (.seq (.ops [⟨(some 11), .build [.str [], .str [], .str []] [(0, 1, (.c (.str [108, 101, 116, 32, 105, 100, 32, 120, 32, 61, 32, 120, 59, 32, 108, 101, 116, 32, 102, 32, 61, 32, 40, 105, 100, 32, 49, 44, 32, 105, 100, 32, 50, 41, 59]))), (1, 1, (.c (.str [73, 110, 116, 32, 45, 62, 32, 73, 110, 116]))), (2, 1, (.c (.str [40, 73, 110, 116, 44, 32, 73, 110, 116, 41])))], none, false, []⟩,
   ⟨(some 12), .build [.str [], .str [], .str []] [(0, 1, (.c (.str [108, 101, 116, 32, 97, 32, 120, 32, 61, 32, 98, 32, 120, 59, 32, 108, 101, 116, 32, 98, 32, 121, 32, 61, 32, 97, 32, 121, 59]))), (1, 1, (.c (.str [97, 32, 45, 62, 32, 98]))), (2, 1, (.c (.str [97, 32, 45, 62, 32, 98])))], none, false, []⟩,
   ⟨(some 13), .build [.str [], .str [], .str []] [(0, 1, (.c (.str [108, 101, 116, 32, 102, 32, 120, 32, 61, 32, 103, 32, 120, 32, 49, 59, 32, 108, 101, 116, 32, 103, 32, 121, 32, 122, 32, 61, 32, 102, 32, 121, 59]))), (1, 1, (.c (.str [97, 32, 45, 62, 32, 98]))), (2, 1, (.c (.str [97, 32, 45, 62, 32, 73, 110, 116, 32, 45, 62, 32, 98])))], none, false, []⟩,
   ⟨(some 14), .build [.str [], .str [], .str []] [(0, 1, (.c (.str [108, 101, 116, 32, 109, 32, 61, 32, 67, 111, 110, 115, 32, 49, 32, 110, 59, 32, 108, 101, 116, 32, 110, 32, 61, 32, 67, 111, 110, 115, 32, 50, 32, 109, 59]))), (1, 1, (.c (.str [76, 105, 115, 116, 32, 73, 110, 116]))), (2, 1, (.c (.str [76, 105, 115, 116, 32, 73, 110, 116])))], none, false, []⟩,
   ⟨(some 15), .bslice false 4 [.str [], .str [], .str [], .str [], .str [], .str [], .str [], .str [], .str [], .str [], .str [], .str []] [(0, 3, (.t 11)), (3, 3, (.t 12)), (6, 3, (.t 13)), (9, 3, (.t 14))], none, false, []⟩,
   ⟨(some 3), .mv (.t 15), none, false, []⟩] none)
 (.seq (.ops [⟨(some 16), .mv (.t 3), none, false, []⟩,
   ⟨(some 17), .mv (.t 0), none, false, []⟩,
   ⟨(some 18), .cint .i64 (.t 17), none, false, []⟩,
   ⟨(some 19), .mv (.t 3), none, false, []⟩,
   ⟨(some 20), .len 1 (.t 19), none, false, []⟩,
   ⟨(some 21), .bin .sc .rem (.t 18) (.t 20), none, false, []⟩,
   ⟨(some 22), .iaddr none 3 (.t 16) (.t 21), none, false, []⟩,
   ⟨(some 23), .load true 3 (.t 22), none, false, []⟩,
   ⟨(some 4), .alloc true [.str [], .str [], .str []], none, false, []⟩,
   ⟨none, .store 3 (.t 4) (.t 23), none, false, []⟩] none)
 (.seq (.ops [⟨(some 24), .iaddr (some 3) 1 (.t 4) (.c (.int .i64 0)), none, false, []⟩,
   ⟨(some 25), .load false 1 (.t 24), none, false, []⟩,
   ⟨(some 26), .call (.c (.func 15 [] [])) [(.t 25)], none, false, []⟩,
   ⟨(some 5), .alloc true [.pl [] 0 .nil, .pl [] 0 .nil], none, false, []⟩,
   ⟨none, .store 2 (.t 5) (.t 26), none, false, []⟩] none)
 (.seq (.ops [⟨(some 28), .faddr 0 (.t 5), none, false, []⟩,
   ⟨(some 29), .load false 1 (.t 28), none, false, []⟩,
   ⟨(some 30), .faddr 1 (.t 5), none, false, []⟩,
   ⟨(some 31), .load false 1 (.t 30), none, false, []⟩,
   ⟨(some 32), .call (.c (.func 16 [] [])) [(.c (.pl [] 0 .nil)), (.t 29), (.t 31)], none, false, []⟩,
   ⟨(some 27), .mv (.t 32), none, false, []⟩,
   ⟨(some 33), .extract 0 (.t 27), none, false, []⟩,
   ⟨(some 34), .extract 1 (.t 27), none, false, []⟩,
   ⟨(some 6), .mv (.t 33), none, false, []⟩,
   ⟨(some 7), .mv (.t 34), none, false, []⟩] none)
 (.seq (.ops [⟨(some 35), .call (.c (.func 15 [] [])) [(.c (.str [108, 101, 116, 32, 105, 100, 32, 120, 32, 61, 32, 120, 59, 32, 108, 101, 116, 32, 102, 32, 61, 32, 40, 105, 100, 32, 49, 44, 32, 105, 100, 32, 116, 114, 117, 101, 41, 59]))], none, false, []⟩,
   ⟨(some 8), .alloc true [.pl [] 0 .nil, .pl [] 0 .nil], none, false, []⟩,
   ⟨none, .store 2 (.t 8) (.t 35), none, false, []⟩] none)
 (.seq (.ops [⟨(some 37), .faddr 0 (.t 8), none, false, []⟩,
   ⟨(some 38), .load false 1 (.t 37), none, false, []⟩,
   ⟨(some 39), .faddr 1 (.t 8), none, false, []⟩,
   ⟨(some 40), .load false 1 (.t 39), none, false, []⟩,
   ⟨(some 41), .call (.c (.func 16 [] [])) [(.c (.pl [] 0 .nil)), (.t 38), (.t 40)], none, false, []⟩,
   ⟨(some 36), .mv (.t 41), none, false, []⟩,
   ⟨(some 42), .extract 0 (.t 36), none, false, []⟩,
   ⟨(some 43), .extract 1 (.t 36), none, false, []⟩,
   ⟨(some 9), .mv (.t 42), none, false, []⟩,
   ⟨(some 10), .mv (.t 43), none, false, []⟩] none)
 (.seq (.ops [⟨(some 44), .mv (.t 7), none, false, []⟩,
   ⟨(some 45), .call (.c (.func 17 [] [])) [(.t 44)], none, false, []⟩,
   ⟨(some 46), .bin .sc .eql (.t 45) (.c (.int .i64 0)), none, false, []⟩,
   ⟨(some 47), .mv (.t 46), none, false, []⟩,
   ⟨(some 48), .mv (.t 6), (some (47, true)), false, []⟩,
   ⟨(some 49), .len 1 (.t 48), (some (47, true)), false, []⟩,
   ⟨(some 50), .bin .sc .eql (.t 49) (.c (.int .i64 2)), (some (47, true)), false, []⟩,
   ⟨(some 51), .pick (.t 47) (.t 50) (.c (.bool false)), none, false, []⟩,
   ⟨(some 52), .mv (.t 51), none, false, []⟩,
   ⟨(some 53), .mv (.t 6), (some (52, true)), false, []⟩,
   ⟨(some 54), .iaddr none 5 (.t 53) (.c (.int .i64 0)), (some (52, true)), false, []⟩,
   ⟨(some 55), .faddr 1 (.t 54), (some (52, true)), false, []⟩,
   ⟨(some 56), .load true 4 (.t 55), (some (52, true)), false, []⟩,
   ⟨(some 57), .call (.c (.func 18 [] [])) [(.t 56)], (some (52, true)), false, []⟩,
   ⟨(some 58), .iaddr (some 3) 1 (.t 4) (.c (.int .i64 1)), (some (52, true)), false, []⟩,
   ⟨(some 59), .load false 1 (.t 58), (some (52, true)), true, []⟩,
   ⟨(some 60), .bin .sc .eql (.t 57) (.t 59), (some (52, true)), false, []⟩,
   ⟨(some 61), .pick (.t 52) (.t 60) (.c (.bool false)), none, false, []⟩,
   ⟨(some 62), .mv (.t 61), none, false, []⟩,
   ⟨(some 63), .mv (.t 6), (some (62, true)), false, []⟩,
   ⟨(some 64), .iaddr none 5 (.t 63) (.c (.int .i64 1)), (some (62, true)), false, []⟩,
   ⟨(some 65), .faddr 1 (.t 64), (some (62, true)), false, []⟩,
   ⟨(some 66), .load true 4 (.t 65), (some (62, true)), false, []⟩,
   ⟨(some 67), .call (.c (.func 18 [] [])) [(.t 66)], (some (62, true)), false, []⟩,
   ⟨(some 68), .iaddr (some 3) 1 (.t 4) (.c (.int .i64 2)), (some (62, true)), false, []⟩,
   ⟨(some 69), .load false 1 (.t 68), (some (62, true)), true, []⟩,
   ⟨(some 70), .bin .sc .eql (.t 67) (.t 69), (some (62, true)), false, []⟩,
   ⟨(some 71), .pick (.t 62) (.t 70) (.c (.bool false)), none, false, []⟩,
   ⟨(some 72), .mv (.t 71), none, false, []⟩,
   ⟨(some 73), .mv (.t 10), (some (72, true)), false, []⟩,
   ⟨(some 74), .call (.c (.func 17 [] [])) [(.t 73)], (some (72, true)), false, []⟩,
   ⟨(some 75), .bin .sc .eql (.t 74) (.c (.int .i64 8)), (some (72, true)), false, []⟩,
   ⟨(some 76), .pick (.t 72) (.t 75) (.c (.bool false)), none, false, []⟩,
   ⟨(some 77), .mv (.t 76), none, false, []⟩,
   ⟨(some 78), .call (.c (.func 11 [] [])) [], (some (77, true)), false, []⟩,
   ⟨(some 79), .pick (.t 77) (.t 78) (.c (.bool false)), none, false, []⟩,
   ⟨(some 2), .mv (.t 79), none, false, []⟩] (some [[], [0], [0, 1], [0, 1, 2], [0, 1, 2, 3], [0, 1, 2, 3, 4], [0, 1, 2, 3, 4, 5], [0, 1, 2, 3, 4, 5, 6], [0, 1, 2, 3, 4, 5, 6, 7], [0, 1, 2, 3, 4, 5, 6, 7, 8], [0, 1, 2, 3, 4, 5, 6, 7, 8, 9], [0, 1, 2, 3, 4, 5, 6, 7, 8, 9, 10], [0, 1, 2, 3, 4, 5, 6, 7, 8, 9, 10, 11], [0, 1, 2, 3, 4, 5, 6, 7, 8, 9, 10, 11, 12], [0, 1, 2, 3, 4, 5, 6, 7, 8], [0, 1, 2, 3, 4, 5, 6, 7, 8, 14], [0, 1, 2, 3, 4, 5, 6, 7, 8, 9, 10, 11, 12, 13, 14, 15], [0, 1, 2, 3, 4, 5, 6, 7, 8, 9, 10, 11, 12, 13, 14, 15, 16], [0, 1, 2, 3, 4, 5, 6, 7, 8, 9, 10, 11, 12, 13, 14, 15, 16, 17], [0, 1, 2, 3, 4, 5, 6, 7, 8, 9, 10, 11, 12, 13, 14, 15, 16, 17, 18], [0, 1, 2, 3, 4, 5, 6, 7, 8, 9, 10, 11, 12, 13, 14, 15, 16, 17, 18, 19], [0, 1, 2, 3, 4, 5, 6, 7, 8, 9, 10, 11, 12, 13, 14, 15, 16, 17, 18, 19, 20], [0, 1, 2, 3, 4, 5, 6, 7, 8, 9, 10, 11, 12, 13, 14, 15, 16, 17, 18, 19, 20, 21], [0, 1, 2, 3, 4, 5, 6, 7, 8, 9, 10, 11, 12, 13, 14, 15, 16, 17, 18, 19, 20, 21, 22], [0, 1, 2, 3, 4, 5, 6, 7, 8, 9, 10, 11, 12, 13, 14, 15, 16, 17, 18], [0, 1, 2, 3, 4, 5, 6, 7, 8, 9, 10, 11, 12, 13, 14, 15, 16, 17, 18, 24], [0, 1, 2, 3, 4, 5, 6, 7, 8, 9, 10, 11, 12, 13, 14, 15, 16, 17, 18, 19, 20, 21, 22, 23, 24, 25], [0, 1, 2, 3, 4, 5, 6, 7, 8, 9, 10, 11, 12, 13, 14, 15, 16, 17, 18, 19, 20, 21, 22, 23, 24, 25, 26], [0, 1, 2, 3, 4, 5, 6, 7, 8, 9, 10, 11, 12, 13, 14, 15, 16, 17, 18, 19, 20, 21, 22, 23, 24, 25, 26, 27], [0, 1, 2, 3, 4, 5, 6, 7, 8, 9, 10, 11, 12, 13, 14, 15, 16, 17, 18, 19, 20, 21, 22, 23, 24, 25, 26, 27, 28], [0, 1, 2, 3, 4, 5, 6, 7, 8, 9, 10, 11, 12, 13, 14, 15, 16, 17, 18, 19, 20, 21, 22, 23, 24, 25, 26, 27, 28, 29], [0, 1, 2, 3, 4, 5, 6, 7, 8, 9, 10, 11, 12, 13, 14, 15, 16, 17, 18, 19, 20, 21, 22, 23, 24, 25, 26, 27, 28, 29, 30], [0, 1, 2, 3, 4, 5, 6, 7, 8, 9, 10, 11, 12, 13, 14, 15, 16, 17, 18, 19, 20, 21, 22, 23, 24, 25, 26, 27, 28, 29, 30, 31], [0, 1, 2, 3, 4, 5, 6, 7, 8, 9, 10, 11, 12, 13, 14, 15, 16, 17, 18, 19, 20, 21, 22, 23, 24, 25, 26, 27, 28, 29, 30, 31, 32], [0, 1, 2, 3, 4, 5, 6, 7, 8, 9, 10, 11, 12, 13, 14, 15, 16, 17, 18, 19, 20, 21, 22, 23, 24, 25, 26, 27, 28, 29, 30, 31, 32, 33], [0, 1, 2, 3, 4, 5, 6, 7, 8, 9, 10, 11, 12, 13, 14, 15, 16, 17, 18, 19, 20, 21, 22, 23, 24, 25, 26, 27, 28, 29, 30, 31, 32, 33, 34], [0, 1, 2, 3, 4, 5, 6, 7, 8, 9, 10, 11, 12, 13, 14, 15, 16, 17, 18, 19, 20, 21, 22, 23, 24, 25, 26, 27, 28, 29, 30, 31, 32, 33, 34, 35]]))
 .ret)))))))) }
/- warplaw21.InferUses -/
def f7 : AFunc :=
 { np := 2, ntmps := 130, results := [.tmp 4], frz := false, body :=
 (.seq (.ops [⟨(some 4), .mv (.c (.bool false)), none, false, []⟩] none)
 (.seq (.seq (.ops [⟨(some 12), .mv (.t 0), none, false, []⟩,
   ⟨(some 13), .len 1 (.t 12), none, false, []⟩,
   ⟨(some 14), .bin .sc .gtr (.t 13) (.c (.int .i64 12)), none, false, []⟩,
   ⟨(some 15), .mv (.t 14), none, false, []⟩,
   ⟨(some 16), .mv (.t 1), (some (15, false)), false, []⟩,
   ⟨(some 17), .len 1 (.t 16), (some (15, false)), false, []⟩,
   ⟨(some 18), .bin .sc .gtr (.t 17) (.c (.int .i64 12)), (some (15, false)), false, []⟩,
   ⟨(some 19), .pick (.t 15) (.c (.bool true)) (.t 18), none, false, []⟩] none)
 (.cond (.t 19) (.seq (.ops [⟨(some 20), .call (.c (.func 11 [] [])) [], none, false, []⟩,
   ⟨(some 4), .mv (.t 20), none, false, []⟩] none)
 .ret) .skip))
 (.seq (.ops [⟨(some 21), .mv (.t 0), none, false, []⟩,
   ⟨(some 22), .call (.c (.func 13 [] [])) [(.t 21), (.c (.int .i64 3))], none, false, []⟩,
   ⟨(some 23), .call (.c (.func 12 [] [])) [(.t 22)], none, false, []⟩,
   ⟨(some 5), .alloc true [.int .i64 0, .int .i64 0, .int .i64 0, .str [], .pl [] 0 .nil], none, false, []⟩,
   ⟨none, .store 5 (.t 5) (.t 23), none, false, []⟩] none)
 (.seq (.ops [⟨(some 24), .load true 5 (.t 5), none, true, []⟩,
   ⟨(some 25), .build [.str [], .int .i64 0, .int .i64 0, .int .i64 0, .str [], .pl [] 0 .nil] [(0, 1, (.c (.str [120]))), (1, 5, (.t 24))], none, false, []⟩,
   ⟨(some 26), .mv (.t 1), none, false, []⟩,
   ⟨(some 27), .call (.c (.func 13 [] [])) [(.t 26), (.c (.int .i64 3))], none, false, []⟩,
   ⟨(some 28), .call (.c (.func 12 [] [])) [(.t 27)], none, false, []⟩,
   ⟨(some 29), .build [.str [], .int .i64 0, .int .i64 0, .int .i64 0, .str [], .pl [] 0 .nil] [(0, 1, (.c (.str [121]))), (1, 5, (.t 28))], none, false, []⟩,
   ⟨(some 30), .bslice false 2 [.str [], .int .i64 0, .int .i64 0, .int .i64 0, .str [], .pl [] 0 .nil, .str [], .int .i64 0, .int .i64 0, .int .i64 0, .str [], .pl [] 0 .nil] [(0, 6, (.t 25)), (6, 6, (.t 29))], none, false, []⟩,
   ⟨(some 6), .mv (.t 30), none, false, []⟩] (some [[], [0], [], [2], [2, 3], [2, 3, 4], [0, 1, 2, 3, 4, 5], [0, 1, 2, 3, 4, 5, 6]]))
 (.seq (.ops [⟨(some 31), .call (.c (.func 15 [] [])) [(.c (.str [108, 101, 116, 32, 113, 32, 61, 32, 40, 120, 44, 32, 120, 41, 59]))], none, false, []⟩,
   ⟨(some 7), .alloc true [.pl [] 0 .nil, .pl [] 0 .nil], none, false, []⟩,
   ⟨none, .store 2 (.t 7) (.t 31), none, false, []⟩] none)
 (.seq (.ops [⟨(some 33), .mv (.t 6), none, false, []⟩,
   ⟨(some 34), .faddr 0 (.t 7), none, false, []⟩,
   ⟨(some 35), .load false 1 (.t 34), none, false, []⟩,
   ⟨(some 36), .faddr 1 (.t 7), none, false, []⟩,
   ⟨(some 37), .load false 1 (.t 36), none, false, []⟩,
   ⟨(some 38), .call (.c (.func 16 [] [])) [(.t 33), (.t 35), (.t 37)], none, false, []⟩,
   ⟨(some 32), .mv (.t 38), none, false, []⟩,
   ⟨(some 39), .extract 0 (.t 32), none, false, []⟩,
   ⟨(some 40), .extract 1 (.t 32), none, false, []⟩,
   ⟨(some 8), .mv (.t 39), none, false, []⟩,
   ⟨(some 9), .mv (.t 40), none, false, []⟩] none)
 (.seq (.ops [⟨(some 42), .mv (.t 6), none, false, []⟩,
   ⟨(some 43), .sliceL 6 (.t 42) none (some (.c (.int .i64 1))) none, none, false, []⟩,
   ⟨(some 44), .faddr 0 (.t 7), none, false, []⟩,
   ⟨(some 45), .load false 1 (.t 44), none, false, []⟩,
   ⟨(some 46), .faddr 1 (.t 7), none, false, []⟩,
   ⟨(some 47), .load false 1 (.t 46), none, false, []⟩,
   ⟨(some 48), .call (.c (.func 16 [] [])) [(.t 43), (.t 45), (.t 47)], none, false, []⟩,
   ⟨(some 41), .mv (.t 48), none, false, []⟩,
   ⟨(some 49), .extract 0 (.t 41), none, false, []⟩,
   ⟨(some 50), .extract 1 (.t 41), none, false, []⟩,
   ⟨(some 10), .mv (.t 49), none, false, []⟩,
   ⟨(some 11), .mv (.t 50), none, false, []⟩] (some [[], [0], [], [2], [], [4], [0, 1, 2, 3, 4, 5], [0, 1, 2, 3, 4, 5, 6], [0, 1, 2, 3, 4, 5, 6, 7], [0, 1, 2, 3, 4, 5, 6, 7], [0, 1, 2, 3, 4, 5, 6, 7, 8], [0, 1, 2, 3, 4, 5, 6, 7, 8, 9, 10]]))
 (.seq (.seq (.ops [⟨(some 51), .mv (.t 9), none, false, []⟩,
   ⟨(some 52), .call (.c (.func 17 [] [])) [(.t 51)], none, false, []⟩,
   ⟨(some 53), .mv (.t 11), none, false, []⟩,
   ⟨(some 54), .call (.c (.func 17 [] [])) [(.t 53)], none, false, []⟩,
   ⟨(some 55), .bin .sc .neq (.t 52) (.t 54), none, false, []⟩,
   ⟨(some 56), .mv (.t 55), none, false, []⟩,
   ⟨(some 57), .mv (.t 8), (some (56, false)), false, []⟩,
   ⟨(some 58), .mv (.t 10), (some (56, false)), false, []⟩,
   ⟨(some 59), .call (.c (.func 20 [] [])) [(.t 57), (.t 58)], (some (56, false)), false, []⟩,
   ⟨(some 60), .not (.t 59), (some (56, false)), false, []⟩,
   ⟨(some 61), .pick (.t 56) (.c (.bool true)) (.t 60), none, false, []⟩] none)
 (.cond (.t 61) (.seq (.ops [⟨(some 4), .mv (.c (.bool false)), none, false, []⟩] none)
 .ret) .skip))
 (.seq (.seq (.ops [⟨(some 62), .mv (.t 9), none, false, []⟩,
   ⟨(some 63), .call (.c (.func 17 [] [])) [(.t 62)], none, false, []⟩,
   ⟨(some 64), .bin .sc .neq (.t 63) (.c (.int .i64 0)), none, false, []⟩] none)
 (.cond (.t 64) (.seq (.ops [⟨(some 65), .mv (.t 9), none, false, []⟩,
   ⟨(some 66), .call (.c (.func 17 [] [])) [(.t 65)], none, false, []⟩,
   ⟨(some 67), .bin .sc .eql (.t 66) (.c (.int .i64 8)), none, false, []⟩,
   ⟨(some 68), .mv (.t 67), none, false, []⟩,
   ⟨(some 69), .faddr 1 (.t 5), (some (68, true)), false, []⟩,
   ⟨(some 70), .load true 4 (.t 69), (some (68, true)), false, []⟩,
   ⟨(some 71), .call (.c (.func 21 [] [])) [(.t 70)], (some (68, true)), false, []⟩,
   ⟨(some 72), .bin .sc .mul (.c (.int .i64 2)) (.t 71), (some (68, true)), false, []⟩,
   ⟨(some 73), .bin .sc .add (.t 72) (.c (.int .i64 1)), (some (68, true)), false, []⟩,
   ⟨(some 74), .bin .sc .gtr (.t 73) (.c (.int .i64 400)), (some (68, true)), false, []⟩,
   ⟨(some 75), .pick (.t 68) (.t 74) (.c (.bool false)), none, false, []⟩,
   ⟨(some 76), .mv (.t 75), none, false, []⟩,
   ⟨(some 77), .call (.c (.func 11 [] [])) [], (some (76, true)), false, []⟩,
   ⟨(some 78), .pick (.t 76) (.t 77) (.c (.bool false)), none, false, []⟩,
   ⟨(some 4), .mv (.t 78), none, false, []⟩] none)
 .ret) .skip))
 (.seq (.ops [⟨(some 79), .mv (.t 8), none, false, []⟩,
   ⟨(some 80), .len 1 (.t 79), none, false, []⟩,
   ⟨(some 81), .bin .sc .eql (.t 80) (.c (.int .i64 1)), none, false, []⟩,
   ⟨(some 82), .mv (.t 81), none, false, []⟩,
   ⟨(some 83), .mv (.t 8), (some (82, true)), false, []⟩,
   ⟨(some 84), .iaddr none 5 (.t 83) (.c (.int .i64 0)), (some (82, true)), false, []⟩,
   ⟨(some 85), .faddr 0 (.t 84), (some (82, true)), false, []⟩,
   ⟨(some 86), .load false 1 (.t 85), (some (82, true)), false, []⟩,
   ⟨(some 87), .faddr 0 (.t 5), (some (82, true)), false, []⟩,
   ⟨(some 88), .load false 1 (.t 87), (some (82, true)), false, []⟩,
   ⟨(some 89), .bin .sc .mul (.c (.int .i64 2)) (.t 88), (some (82, true)), false, []⟩,
   ⟨(some 90), .bin .sc .eql (.t 86) (.t 89), (some (82, true)), false, []⟩,
   ⟨(some 91), .pick (.t 82) (.t 90) (.c (.bool false)), none, false, []⟩,
   ⟨(some 92), .mv (.t 91), none, false, []⟩,
   ⟨(some 93), .mv (.t 8), (some (92, true)), false, []⟩,
   ⟨(some 94), .iaddr none 5 (.t 93) (.c (.int .i64 0)), (some (92, true)), false, []⟩,
   ⟨(some 95), .faddr 1 (.t 94), (some (92, true)), false, []⟩,
   ⟨(some 96), .faddr 3 (.t 95), (some (92, true)), false, []⟩,
   ⟨(some 97), .load false 1 (.t 96), (some (92, true)), false, []⟩,
   ⟨(some 98), .len 1 (.t 97), (some (92, true)), false, []⟩,
   ⟨(some 99), .bin .sc .eql (.t 98) (.c (.int .i64 2)), (some (92, true)), false, []⟩,
   ⟨(some 100), .pick (.t 92) (.t 99) (.c (.bool false)), none, false, []⟩,
   ⟨(some 101), .mv (.t 100), none, false, []⟩,
   ⟨(some 102), .mv (.t 8), (some (101, true)), false, []⟩,
   ⟨(some 103), .iaddr none 5 (.t 102) (.c (.int .i64 0)), (some (101, true)), false, []⟩,
   ⟨(some 104), .faddr 1 (.t 103), (some (101, true)), false, []⟩,
   ⟨(some 105), .faddr 3 (.t 104), (some (101, true)), false, []⟩,
   ⟨(some 106), .load false 1 (.t 105), (some (101, true)), false, []⟩,
   ⟨(some 107), .iaddr none 4 (.t 106) (.c (.int .i64 0)), (some (101, true)), false, []⟩,
   ⟨(some 108), .load true 4 (.t 107), (some (101, true)), false, []⟩,
   ⟨(some 109), .call (.c (.func 23 [] [])) [(.t 108)], (some (101, true)), false, []⟩,
   ⟨(some 110), .faddr 1 (.t 5), (some (101, true)), false, []⟩,
   ⟨(some 111), .load true 4 (.t 110), (some (101, true)), true, []⟩,
   ⟨(some 112), .call (.c (.func 22 [] [])) [(.t 109), (.t 111)], (some (101, true)), false, []⟩,
   ⟨(some 113), .pick (.t 101) (.t 112) (.c (.bool false)), none, false, []⟩,
   ⟨(some 114), .mv (.t 113), none, false, []⟩,
   ⟨(some 115), .mv (.t 8), (some (114, true)), false, []⟩,
   ⟨(some 116), .iaddr none 5 (.t 115) (.c (.int .i64 0)), (some (114, true)), false, []⟩,
   ⟨(some 117), .faddr 1 (.t 116), (some (114, true)), false, []⟩,
   ⟨(some 118), .faddr 3 (.t 117), (some (114, true)), false, []⟩,
   ⟨(some 119), .load false 1 (.t 118), (some (114, true)), false, []⟩,
   ⟨(some 120), .iaddr none 4 (.t 119) (.c (.int .i64 1)), (some (114, true)), false, []⟩,
   ⟨(some 121), .load true 4 (.t 120), (some (114, true)), false, []⟩,
   ⟨(some 122), .call (.c (.func 23 [] [])) [(.t 121)], (some (114, true)), false, []⟩,
   ⟨(some 123), .faddr 1 (.t 5), (some (114, true)), false, []⟩,
   ⟨(some 124), .load true 4 (.t 123), (some (114, true)), true, []⟩,
   ⟨(some 125), .call (.c (.func 22 [] [])) [(.t 122), (.t 124)], (some (114, true)), false, []⟩,
   ⟨(some 126), .pick (.t 114) (.t 125) (.c (.bool false)), none, false, []⟩,
   ⟨(some 127), .mv (.t 126), none, false, []⟩,
   ⟨(some 128), .call (.c (.func 11 [] [])) [], (some (127, true)), false, []⟩,
   ⟨(some 129), .pick (.t 127) (.t 128) (.c (.bool false)), none, false, []⟩,
   ⟨(some 4), .mv (.t 129), none, false, []⟩] (some [[], [0], [0, 1], [0, 1, 2], [0, 1, 2, 3], [0, 1, 2, 3, 4], [0, 1, 2, 3, 4, 5], [0, 1, 2, 3, 4, 5, 6], [0, 1, 2, 3], [0, 1, 2, 3, 8], [0, 1, 2, 3, 8, 9], [0, 1, 2, 3, 4, 5, 6, 7, 8, 9, 10], [0, 1, 2, 3, 4, 5, 6, 7, 8, 9, 10, 11], [0, 1, 2, 3, 4, 5, 6, 7, 8, 9, 10, 11, 12], [0, 1, 2, 3, 4, 5, 6, 7, 8, 9, 10, 11, 12, 13], [0, 1, 2, 3, 4, 5, 6, 7, 8, 9, 10, 11, 12, 13, 14], [0, 1, 2, 3, 4, 5, 6, 7, 8, 9, 10, 11, 12, 13, 14, 15], [0, 1, 2, 3, 4, 5, 6, 7, 8, 9, 10, 11, 12, 13, 14, 15, 16], [0, 1, 2, 3, 4, 5, 6, 7, 8, 9, 10, 11, 12, 13, 14, 15, 16, 17], [0, 1, 2, 3, 4, 5, 6, 7, 8, 9, 10, 11, 12, 13, 14, 15, 16, 17, 18], [0, 1, 2, 3, 4, 5, 6, 7, 8, 9, 10, 11, 12, 13, 14, 15, 16, 17, 18, 19], [0, 1, 2, 3, 4, 5, 6, 7, 8, 9, 10, 11, 12, 13, 14, 15, 16, 17, 18, 19, 20], [0, 1, 2, 3, 4, 5, 6, 7, 8, 9, 10, 11, 12, 13, 14, 15, 16, 17, 18, 19, 20, 21], [0, 1, 2, 3, 4, 5, 6, 7, 8, 9, 10, 11, 12, 13, 14, 15, 16, 17, 18, 19, 20, 21, 22], [0, 1, 2, 3, 4, 5, 6, 7, 8, 9, 10, 11, 12, 13, 14, 15, 16, 17, 18, 19, 20, 21, 22, 23], [0, 1, 2, 3, 4, 5, 6, 7, 8, 9, 10, 11, 12, 13, 14, 15, 16, 17, 18, 19, 20, 21, 22, 23, 24], [0, 1, 2, 3, 4, 5, 6, 7, 8, 9, 10, 11, 12, 13, 14, 15, 16, 17, 18, 19, 20, 21, 22, 23, 24, 25], [0, 1, 2, 3, 4, 5, 6, 7, 8, 9, 10, 11, 12, 13, 14, 15, 16, 17, 18, 19, 20, 21, 22, 23, 24, 25, 26], [0, 1, 2, 3, 4, 5, 6, 7, 8, 9, 10, 11, 12, 13, 14, 15, 16, 17, 18, 19, 20, 21, 22, 23, 24, 25, 26, 27], [0, 1, 2, 3, 4, 5, 6, 7, 8, 9, 10, 11, 12, 13, 14, 15, 16, 17, 18, 19, 20, 21, 22, 23, 24, 25, 26, 27, 28], [0, 1, 2, 3, 4, 5, 6, 7, 8, 9, 10, 11, 12, 13, 14, 15, 16, 17, 18, 19, 20, 21, 22, 23, 24, 25, 26, 27, 28, 29], [0, 1, 2, 3, 4, 5, 6, 7, 8, 9, 10, 11, 12, 13, 14, 15, 16, 17, 18, 19, 20, 21, 22], [0, 1, 2, 3, 4, 5, 6, 7, 8, 9, 10, 11, 12, 13, 14, 15, 16, 17, 18, 19, 20, 21, 22, 31], [0, 1, 2, 3, 4, 5, 6, 7, 8, 9, 10, 11, 12, 13, 14, 15, 16, 17, 18, 19, 20, 21, 22, 23, 24, 25, 26, 27, 28, 29, 30, 31, 32], [0, 1, 2, 3, 4, 5, 6, 7, 8, 9, 10, 11, 12, 13, 14, 15, 16, 17, 18, 19, 20, 21, 22, 23, 24, 25, 26, 27, 28, 29, 30, 31, 32, 33], [0, 1, 2, 3, 4, 5, 6, 7, 8, 9, 10, 11, 12, 13, 14, 15, 16, 17, 18, 19, 20, 21, 22, 23, 24, 25, 26, 27, 28, 29, 30, 31, 32, 33, 34], [0, 1, 2, 3, 4, 5, 6, 7, 8, 9, 10, 11, 12, 13, 14, 15, 16, 17, 18, 19, 20, 21, 22, 23, 24, 25, 26, 27, 28, 29, 30, 31, 32, 33, 34, 35], [0, 1, 2, 3, 4, 5, 6, 7, 8, 9, 10, 11, 12, 13, 14, 15, 16, 17, 18, 19, 20, 21, 22, 23, 24, 25, 26, 27, 28, 29, 30, 31, 32, 33, 34, 35, 36], [0, 1, 2, 3, 4, 5, 6, 7, 8, 9, 10, 11, 12, 13, 14, 15, 16, 17, 18, 19, 20, 21, 22, 23, 24, 25, 26, 27, 28, 29, 30, 31, 32, 33, 34, 35, 36, 37], [0, 1, 2, 3, 4, 5, 6, 7, 8, 9, 10, 11, 12, 13, 14, 15, 16, 17, 18, 19, 20, 21, 22, 23, 24, 25, 26, 27, 28, 29, 30, 31, 32, 33, 34, 35, 36, 37, 38], [0, 1, 2, 3, 4, 5, 6, 7, 8, 9, 10, 11, 12, 13, 14, 15, 16, 17, 18, 19, 20, 21, 22, 23, 24, 25, 26, 27, 28, 29, 30, 31, 32, 33, 34, 35, 36, 37, 38, 39], [0, 1, 2, 3, 4, 5, 6, 7, 8, 9, 10, 11, 12, 13, 14, 15, 16, 17, 18, 19, 20, 21, 22, 23, 24, 25, 26, 27, 28, 29, 30, 31, 32, 33, 34, 35, 36, 37, 38, 39, 40], [0, 1, 2, 3, 4, 5, 6, 7, 8, 9, 10, 11, 12, 13, 14, 15, 16, 17, 18, 19, 20, 21, 22, 23, 24, 25, 26, 27, 28, 29, 30, 31, 32, 33, 34, 35, 36, 37, 38, 39, 40, 41], [0, 1, 2, 3, 4, 5, 6, 7, 8, 9, 10, 11, 12, 13, 14, 15, 16, 17, 18, 19, 20, 21, 22, 23, 24, 25, 26, 27, 28, 29, 30, 31, 32, 33, 34, 35, 36, 37, 38, 39, 40, 41, 42], [0, 1, 2, 3, 4, 5, 6, 7, 8, 9, 10, 11, 12, 13, 14, 15, 16, 17, 18, 19, 20, 21, 22, 23, 24, 25, 26, 27, 28, 29, 30, 31, 32, 33, 34, 35], [0, 1, 2, 3, 4, 5, 6, 7, 8, 9, 10, 11, 12, 13, 14, 15, 16, 17, 18, 19, 20, 21, 22, 23, 24, 25, 26, 27, 28, 29, 30, 31, 32, 33, 34, 35, 44], [0, 1, 2, 3, 4, 5, 6, 7, 8, 9, 10, 11, 12, 13, 14, 15, 16, 17, 18, 19, 20, 21, 22, 23, 24, 25, 26, 27, 28, 29, 30, 31, 32, 33, 34, 35, 36, 37, 38, 39, 40, 41, 42, 43, 44, 45], [0, 1, 2, 3, 4, 5, 6, 7, 8, 9, 10, 11, 12, 13, 14, 15, 16, 17, 18, 19, 20, 21, 22, 23, 24, 25, 26, 27, 28, 29, 30, 31, 32, 33, 34, 35, 36, 37, 38, 39, 40, 41, 42, 43, 44, 45, 46], [0, 1, 2, 3, 4, 5, 6, 7, 8, 9, 10, 11, 12, 13, 14, 15, 16, 17, 18, 19, 20, 21, 22, 23, 24, 25, 26, 27, 28, 29, 30, 31, 32, 33, 34, 35, 36, 37, 38, 39, 40, 41, 42, 43, 44, 45, 46, 47], [0, 1, 2, 3, 4, 5, 6, 7, 8, 9, 10, 11, 12, 13, 14, 15, 16, 17, 18, 19, 20, 21, 22, 23, 24, 25, 26, 27, 28, 29, 30, 31, 32, 33, 34, 35, 36, 37, 38, 39, 40, 41, 42, 43, 44, 45, 46, 47, 48], [0, 1, 2, 3, 4, 5, 6, 7, 8, 9, 10, 11, 12, 13, 14, 15, 16, 17, 18, 19, 20, 21, 22, 23, 24, 25, 26, 27, 28, 29, 30, 31, 32, 33, 34, 35, 36, 37, 38, 39, 40, 41, 42, 43, 44, 45, 46, 47, 48, 49], [0, 1, 2, 3, 4, 5, 6, 7, 8, 9, 10, 11, 12, 13, 14, 15, 16, 17, 18, 19, 20, 21, 22, 23, 24, 25, 26, 27, 28, 29, 30, 31, 32, 33, 34, 35, 36, 37, 38, 39, 40, 41, 42, 43, 44, 45, 46, 47, 48, 49, 50]]))
 .ret)))))))))) }
/- warplaw21.InferLets -/
def f8 : AFunc :=
 { np := 2, ntmps := 116, results := [.tmp 4], frz := false, body :=
 (.seq (.ops [⟨(some 4), .mv (.c (.bool false)), none, false, []⟩] none)
 (.seq (.seq (.ops [⟨(some 13), .mv (.t 0), none, false, []⟩,
   ⟨(some 14), .len 1 (.t 13), none, false, []⟩,
   ⟨(some 15), .bin .sc .gtr (.t 14) (.c (.int .i64 10)), none, false, []⟩] none)
 (.cond (.t 15) (.seq (.ops [⟨(some 16), .call (.c (.func 11 [] [])) [], none, false, []⟩,
   ⟨(some 4), .mv (.t 16), none, false, []⟩] none)
 .ret) .skip))
 (.seq (.ops [⟨(some 17), .mv (.t 0), none, false, []⟩,
   ⟨(some 18), .call (.c (.func 24 [] [])) [(.t 17), (.c (.pl [] 0 .nil))], none, false, []⟩,
   ⟨(some 5), .mv (.t 18), none, false, []⟩] none)
 (.seq (.ops [⟨(some 19), .mv (.t 5), none, false, []⟩,
   ⟨(some 20), .bin .sc .add (.c (.str [40])) (.t 19), none, false, []⟩,
   ⟨(some 21), .bin .sc .add (.t 20) (.c (.str [44, 32])), none, false, []⟩,
   ⟨(some 22), .mv (.t 5), none, false, []⟩,
   ⟨(some 23), .bin .sc .add (.t 21) (.t 22), none, false, []⟩,
   ⟨(some 24), .bin .sc .add (.t 23) (.c (.str [41])), none, false, []⟩,
   ⟨(some 25), .build [.str [], .str []] [(0, 1, (.c (.str [40, 118, 44, 32, 118, 41]))), (1, 1, (.t 24))], none, false, []⟩,
   ⟨(some 26), .mv (.t 5), none, false, []⟩,
   ⟨(some 27), .bin .sc .add (.c (.str [67, 111, 110, 115, 32, 40])) (.t 26), none, false, []⟩,
   ⟨(some 28), .bin .sc .add (.t 27) (.c (.str [41, 32, 78, 105, 108])), none, false, []⟩,
   ⟨(some 29), .build [.str [], .str []] [(0, 1, (.c (.str [67, 111, 110, 115, 32, 118, 32, 78, 105, 108]))), (1, 1, (.t 28))], none, false, []⟩,
   ⟨(some 30), .mv (.t 5), none, false, []⟩,
   ⟨(some 31), .bin .sc .add (.c (.str [92, 122, 32, 45, 62, 32, 40, 122, 44, 32])) (.t 30), none, false, []⟩,
   ⟨(some 32), .bin .sc .add (.t 31) (.c (.str [41])), none, false, []⟩,
   ⟨(some 33), .build [.str [], .str []] [(0, 1, (.c (.str [92, 122, 32, 45, 62, 32, 40, 122, 44, 32, 118, 41]))), (1, 1, (.t 32))], none, false, []⟩,
   ⟨(some 34), .mv (.t 5), none, false, []⟩,
   ⟨(some 35), .build [.str [], .str []] [(0, 1, (.c (.str [118]))), (1, 1, (.t 34))], none, false, []⟩,
   ⟨(some 36), .bslice false 4 [.str [], .str [], .str [], .str [], .str [], .str [], .str [], .str []] [(0, 2, (.t 25)), (2, 2, (.t 29)), (4, 2, (.t 33)), (6, 2, (.t 35))], none, false, []⟩,
   ⟨(some 37), .mv (.t 1), none, false, []⟩,
   ⟨(some 38), .bin .sc .rem (.t 37) (.c (.int .u8 4)), none, false, []⟩,
   ⟨(some 39), .iaddr none 2 (.t 36) (.t 38), none, false, []⟩,
   ⟨(some 40), .load true 2 (.t 39), none, false, []⟩,
   ⟨(some 6), .alloc true [.str [], .str []], none, false, []⟩,
   ⟨none, .store 2 (.t 6) (.t 40), none, false, []⟩] none)
 (.seq (.ops [⟨(some 41), .mv (.t 5), none, false, []⟩,
   ⟨(some 42), .bin .sc .add (.c (.str [108, 101, 116, 32, 113, 32, 61, 32, 108, 101, 116, 32, 118, 32, 61, 32])) (.t 41), none, false, []⟩,
   ⟨(some 43), .bin .sc .add (.t 42) (.c (.str [32, 105, 110, 32])), none, false, []⟩,
   ⟨(some 44), .iaddr (some 2) 1 (.t 6) (.c (.int .i64 0)), none, false, []⟩,
   ⟨(some 45), .load false 1 (.t 44), none, false, []⟩,
   ⟨(some 46), .bin .sc .add (.t 43) (.t 45), none, false, []⟩,
   ⟨(some 47), .bin .sc .add (.t 46) (.c (.str [59])), none, false, []⟩,
   ⟨(some 48), .call (.c (.func 15 [] [])) [(.t 47)], none, false, []⟩,
   ⟨(some 49), .iaddr (some 2) 1 (.t 6) (.c (.int .i64 1)), none, false, []⟩,
   ⟨(some 50), .load false 1 (.t 49), none, true, []⟩,
   ⟨(some 51), .bin .sc .add (.c (.str [108, 101, 116, 32, 113, 32, 61, 32])) (.t 50), none, false, []⟩,
   ⟨(some 52), .bin .sc .add (.t 51) (.c (.str [59])), none, false, []⟩,
   ⟨(some 53), .call (.c (.func 15 [] [])) [(.t 52)], none, false, []⟩,
   ⟨(some 7), .alloc true [.pl [] 0 .nil, .pl [] 0 .nil], none, false, []⟩,
   ⟨(some 8), .alloc true [.pl [] 0 .nil, .pl [] 0 .nil], none, false, []⟩,
   ⟨none, .store 2 (.t 7) (.t 48), none, false, []⟩,
   ⟨none, .store 2 (.t 8) (.t 53), none, false, []⟩] (some [[], [0], [0, 1], [], [3], [0, 1, 2, 3, 4], [0, 1, 2, 3, 4, 5], [0, 1, 2, 3, 4, 5, 6], [], [8], [8, 9], [8, 9, 10], [0, 1, 2, 3, 4, 5, 6, 7, 8, 9, 10, 11], [], [], [0, 1, 2, 3, 4, 5, 6, 7, 8, 9, 10, 11, 12, 13, 14], [0, 1, 2, 3, 4, 5, 6, 7, 8, 9, 10, 11, 12, 13, 14, 15]]))
 (.seq (.seq (.ops [⟨(some 54), .faddr 1 (.t 7), none, false, []⟩,
   ⟨(some 55), .load false 1 (.t 54), none, false, []⟩,
   ⟨(some 56), .len 1 (.t 55), none, false, []⟩,
   ⟨(some 57), .bin .sc .neq (.t 56) (.c (.int .i64 1)), none, false, []⟩,
   ⟨(some 58), .mv (.t 57), none, false, []⟩,
   ⟨(some 59), .faddr 1 (.t 8), (some (58, false)), false, []⟩,
   ⟨(some 60), .load false 1 (.t 59), (some (58, false)), false, []⟩,
   ⟨(some 61), .len 1 (.t 60), (some (58, false)), false, []⟩,
   ⟨(some 62), .bin .sc .neq (.t 61) (.c (.int .i64 1)), (some (58, false)), false, []⟩,
   ⟨(some 63), .pick (.t 58) (.c (.bool true)) (.t 62), none, false, []⟩] none)
 (.cond (.t 63) (.seq (.ops [⟨(some 64), .call (.c (.func 11 [] [])) [], none, false, []⟩,
   ⟨(some 4), .mv (.t 64), none, false, []⟩] none)
 .ret) .skip))
 (.seq (.ops [⟨(some 66), .faddr 0 (.t 7), none, false, []⟩,
   ⟨(some 67), .load false 1 (.t 66), none, false, []⟩,
   ⟨(some 68), .faddr 1 (.t 7), none, false, []⟩,
   ⟨(some 69), .load false 1 (.t 68), none, false, []⟩,
   ⟨(some 70), .call (.c (.func 16 [] [])) [(.c (.pl [] 0 .nil)), (.t 67), (.t 69)], none, false, []⟩,
   ⟨(some 65), .mv (.t 70), none, false, []⟩,
   ⟨(some 71), .extract 0 (.t 65), none, false, []⟩,
   ⟨(some 72), .extract 1 (.t 65), none, false, []⟩,
   ⟨(some 9), .mv (.t 71), none, false, []⟩,
   ⟨(some 10), .mv (.t 72), none, false, []⟩] none)
 (.seq (.ops [⟨(some 74), .faddr 0 (.t 8), none, false, []⟩,
   ⟨(some 75), .load false 1 (.t 74), none, false, []⟩,
   ⟨(some 76), .faddr 1 (.t 8), none, false, []⟩,
   ⟨(some 77), .load false 1 (.t 76), none, false, []⟩,
   ⟨(some 78), .call (.c (.func 16 [] [])) [(.c (.pl [] 0 .nil)), (.t 75), (.t 77)], none, false, []⟩,
   ⟨(some 73), .mv (.t 78), none, false, []⟩,
   ⟨(some 79), .extract 0 (.t 73), none, false, []⟩,
   ⟨(some 80), .extract 1 (.t 73), none, false, []⟩,
   ⟨(some 11), .mv (.t 79), none, false, []⟩,
   ⟨(some 12), .mv (.t 80), none, false, []⟩] none)
 (.seq (.seq (.ops [⟨(some 81), .mv (.t 10), none, false, []⟩,
   ⟨(some 82), .call (.c (.func 17 [] [])) [(.t 81)], none, false, []⟩,
   ⟨(some 83), .bin .sc .neq (.t 82) (.c (.int .i64 0)), none, false, []⟩,
   ⟨(some 84), .mv (.t 83), none, false, []⟩,
   ⟨(some 85), .mv (.t 12), (some (84, false)), false, []⟩,
   ⟨(some 86), .call (.c (.func 17 [] [])) [(.t 85)], (some (84, false)), false, []⟩,
   ⟨(some 87), .bin .sc .neq (.t 86) (.c (.int .i64 0)), (some (84, false)), false, []⟩,
   ⟨(some 88), .pick (.t 84) (.c (.bool true)) (.t 87), none, false, []⟩] none)
 (.cond (.t 88) (.seq (.ops [⟨(some 89), .mv (.t 10), none, false, []⟩,
   ⟨(some 90), .call (.c (.func 17 [] [])) [(.t 89)], none, false, []⟩,
   ⟨(some 91), .bin .sc .eql (.t 90) (.c (.int .i64 0)), none, false, []⟩,
   ⟨(some 92), .mv (.t 91), none, false, []⟩,
   ⟨(some 93), .mv (.t 10), (some (92, false)), false, []⟩,
   ⟨(some 94), .call (.c (.func 17 [] [])) [(.t 93)], (some (92, false)), false, []⟩,
   ⟨(some 95), .bin .sc .eql (.t 94) (.c (.int .i64 8)), (some (92, false)), false, []⟩,
   ⟨(some 96), .pick (.t 92) (.c (.bool true)) (.t 95), none, false, []⟩,
   ⟨(some 97), .mv (.t 96), none, false, []⟩,
   ⟨(some 98), .mv (.t 12), (some (97, true)), false, []⟩,
   ⟨(some 99), .call (.c (.func 17 [] [])) [(.t 98)], (some (97, true)), false, []⟩,
   ⟨(some 100), .bin .sc .eql (.t 99) (.c (.int .i64 0)), (some (97, true)), false, []⟩,
   ⟨(some 101), .mv (.t 100), (some (97, true)), false, []⟩,
   ⟨(some 102), .mv (.t 12), (some (101, false)), false, []⟩,
   ⟨(some 103), .call (.c (.func 17 [] [])) [(.t 102)], (some (101, false)), false, []⟩,
   ⟨(some 104), .bin .sc .eql (.t 103) (.c (.int .i64 8)), (some (101, false)), false, []⟩,
   ⟨(some 105), .pick (.t 101) (.c (.bool true)) (.t 104), (some (97, true)), false, []⟩,
   ⟨(some 106), .pick (.t 97) (.t 105) (.c (.bool false)), none, false, []⟩,
   ⟨(some 107), .mv (.t 106), none, false, []⟩,
   ⟨(some 108), .call (.c (.func 11 [] [])) [], (some (107, true)), false, []⟩,
   ⟨(some 109), .pick (.t 107) (.t 108) (.c (.bool false)), none, false, []⟩,
   ⟨(some 4), .mv (.t 109), none, false, []⟩] none)
 .ret) .skip))
 (.seq (.ops [⟨(some 110), .mv (.t 9), none, false, []⟩,
   ⟨(some 111), .mv (.t 11), none, false, []⟩,
   ⟨(some 112), .call (.c (.func 20 [] [])) [(.t 110), (.t 111)], none, false, []⟩,
   ⟨(some 113), .mv (.t 112), none, false, []⟩,
   ⟨(some 114), .call (.c (.func 11 [] [])) [], (some (113, true)), false, []⟩,
   ⟨(some 115), .pick (.t 113) (.t 114) (.c (.bool false)), none, false, []⟩,
   ⟨(some 4), .mv (.t 115), none, false, []⟩] none)
 .ret)))))))))) }
/- warplaw21.InferOrder -/
def f9 : AFunc :=
 { np := 2, ntmps := 94, results := [.tmp 4], frz := false, body :=
 (.seq (.ops [⟨(some 4), .mv (.c (.bool false)), none, false, []⟩] none)
 (.seq (.ops [⟨(some 16), .bslice false 4 [.str [], .str [], .str [], .str []] [(0, 1, (.c (.str [108, 101, 116, 32, 97, 32, 120, 32, 61, 32, 98, 32, 120, 32, 49, 59]))), (1, 1, (.c (.str [108, 101, 116, 32, 98, 32, 121, 32, 122, 32, 61, 32, 99, 32, 40, 97, 32, 121, 41, 59]))), (2, 1, (.c (.str [108, 101, 116, 32, 99, 32, 119, 32, 61, 32, 119, 59]))), (3, 1, (.c (.str [108, 101, 116, 32, 100, 32, 61, 32, 40, 97, 32, 49, 44, 32, 50, 41, 59])))], none, false, []⟩,
   ⟨(some 5), .mv (.t 16), none, false, []⟩] none)
 (.seq (.ops [⟨(some 6), .mv (.c (.str [])), none, false, []⟩,
   ⟨(some 7), .mv (.c (.str [])), none, false, []⟩] none)
 (.seq (.seq (.ops [⟨(some 8), .mv (.c (.int .i64 0)), none, false, []⟩] none)
 (.block 0 (.loop (.seq (.seq (.ops [⟨(some 17), .mv (.t 8), none, false, []⟩,
   ⟨(some 18), .bin .sc .lss (.t 17) (.c (.int .i64 4)), none, false, []⟩] none)
 (.cond (.t 18) .skip (.exit 0)))
 (.seq (.block 1 (.seq (.ops [⟨(some 21), .mv (.t 6), none, false, []⟩,
   ⟨(some 22), .mv (.t 5), none, false, []⟩,
   ⟨(some 23), .mv (.t 8), none, false, []⟩,
   ⟨(some 24), .iaddr none 1 (.t 22) (.t 23), none, false, []⟩,
   ⟨(some 25), .load false 1 (.t 24), none, false, []⟩,
   ⟨(some 26), .bin .sc .add (.t 21) (.t 25), none, false, []⟩,
   ⟨(some 6), .mv (.t 26), none, false, []⟩] none)
 (.ops [⟨(some 27), .mv (.t 7), none, false, []⟩,
   ⟨(some 28), .mv (.t 5), none, false, []⟩,
   ⟨(some 29), .mv (.t 8), none, false, []⟩,
   ⟨(some 30), .bin .sc .mul (.t 29) (.c (.int .i64 3)), none, false, []⟩,
   ⟨(some 31), .mv (.t 1), none, false, []⟩,
   ⟨(some 32), .cint .i64 (.t 31), none, false, []⟩,
   ⟨(some 33), .bin .sc .add (.t 30) (.t 32), none, false, []⟩,
   ⟨(some 34), .bin .sc .rem (.t 33) (.c (.int .i64 4)), none, false, []⟩,
   ⟨(some 35), .iaddr none 1 (.t 28) (.t 34), none, false, []⟩,
   ⟨(some 36), .load false 1 (.t 35), none, false, []⟩,
   ⟨(some 37), .bin .sc .add (.t 27) (.t 36), none, false, []⟩,
   ⟨(some 7), .mv (.t 37), none, false, []⟩] none)))
 (.ops [⟨(some 19), .mv (.t 8), none, false, []⟩,
   ⟨(some 20), .bin .sc .add (.t 19) (.c (.int .i64 1)), none, false, []⟩,
   ⟨(some 8), .mv (.t 20), none, false, []⟩] none))))))
 (.seq (.ops [⟨(some 38), .mv (.t 6), none, false, []⟩,
   ⟨(some 39), .call (.c (.func 15 [] [])) [(.t 38)], none, false, []⟩,
   ⟨(some 40), .mv (.t 7), none, false, []⟩,
   ⟨(some 41), .call (.c (.func 15 [] [])) [(.t 40)], none, false, []⟩,
   ⟨(some 9), .alloc true [.pl [] 0 .nil, .pl [] 0 .nil], none, false, []⟩,
   ⟨(some 10), .alloc true [.pl [] 0 .nil, .pl [] 0 .nil], none, false, []⟩,
   ⟨none, .store 2 (.t 9) (.t 39), none, false, []⟩,
   ⟨none, .store 2 (.t 10) (.t 41), none, false, []⟩] none)
 (.seq (.ops [⟨(some 43), .faddr 0 (.t 9), none, false, []⟩,
   ⟨(some 44), .load false 1 (.t 43), none, false, []⟩,
   ⟨(some 45), .faddr 1 (.t 9), none, false, []⟩,
   ⟨(some 46), .load false 1 (.t 45), none, false, []⟩,
   ⟨(some 47), .call (.c (.func 16 [] [])) [(.c (.pl [] 0 .nil)), (.t 44), (.t 46)], none, false, []⟩,
   ⟨(some 42), .mv (.t 47), none, false, []⟩,
   ⟨(some 48), .extract 0 (.t 42), none, false, []⟩,
   ⟨(some 49), .extract 1 (.t 42), none, false, []⟩,
   ⟨(some 11), .mv (.t 48), none, false, []⟩,
   ⟨(some 12), .mv (.t 49), none, false, []⟩] none)
 (.seq (.ops [⟨(some 51), .faddr 0 (.t 10), none, false, []⟩,
   ⟨(some 52), .load false 1 (.t 51), none, false, []⟩,
   ⟨(some 53), .faddr 1 (.t 10), none, false, []⟩,
   ⟨(some 54), .load false 1 (.t 53), none, false, []⟩,
   ⟨(some 55), .call (.c (.func 16 [] [])) [(.c (.pl [] 0 .nil)), (.t 52), (.t 54)], none, false, []⟩,
   ⟨(some 50), .mv (.t 55), none, false, []⟩,
   ⟨(some 56), .extract 0 (.t 50), none, false, []⟩,
   ⟨(some 57), .extract 1 (.t 50), none, false, []⟩,
   ⟨(some 13), .mv (.t 56), none, false, []⟩,
   ⟨(some 14), .mv (.t 57), none, false, []⟩] none)
 (.seq (.seq (.ops [⟨(some 58), .mv (.t 12), none, false, []⟩,
   ⟨(some 59), .call (.c (.func 17 [] [])) [(.t 58)], none, false, []⟩,
   ⟨(some 60), .mv (.t 14), none, false, []⟩,
   ⟨(some 61), .call (.c (.func 17 [] [])) [(.t 60)], none, false, []⟩,
   ⟨(some 62), .bin .sc .add (.t 59) (.t 61), none, false, []⟩,
   ⟨(some 63), .bin .sc .neq (.t 62) (.c (.int .i64 0)), none, false, []⟩,
   ⟨(some 64), .mv (.t 63), none, false, []⟩,
   ⟨(some 65), .mv (.t 11), (some (64, false)), false, []⟩,
   ⟨(some 66), .len 1 (.t 65), (some (64, false)), false, []⟩,
   ⟨(some 67), .bin .sc .neq (.t 66) (.c (.int .i64 4)), (some (64, false)), false, []⟩,
   ⟨(some 68), .pick (.t 64) (.c (.bool true)) (.t 67), none, false, []⟩,
   ⟨(some 69), .mv (.t 68), none, false, []⟩,
   ⟨(some 70), .mv (.t 13), (some (69, false)), false, []⟩,
   ⟨(some 71), .len 1 (.t 70), (some (69, false)), false, []⟩,
   ⟨(some 72), .bin .sc .neq (.t 71) (.c (.int .i64 4)), (some (69, false)), false, []⟩,
   ⟨(some 73), .pick (.t 69) (.c (.bool true)) (.t 72), none, false, []⟩] none)
 (.cond (.t 73) (.seq (.ops [⟨(some 4), .mv (.c (.bool false)), none, false, []⟩] none)
 .ret) .skip))
 (.seq (.seq (.ops [⟨(some 15), .mv (.c (.int .i64 0)), none, false, []⟩] none)
 (.block 2 (.loop (.seq (.seq (.ops [⟨(some 74), .mv (.t 15), none, false, []⟩,
   ⟨(some 75), .bin .sc .lss (.t 74) (.c (.int .i64 4)), none, false, []⟩] none)
 (.cond (.t 75) .skip (.exit 2)))
 (.seq (.block 3 (.seq (.ops [⟨(some 78), .mv (.t 13), none, false, []⟩,
   ⟨(some 79), .mv (.t 15), none, false, []⟩,
   ⟨(some 80), .iaddr none 5 (.t 78) (.t 79), none, false, []⟩,
   ⟨(some 81), .load true 5 (.t 80), none, false, []⟩,
   ⟨(some 82), .mv (.t 11), none, false, []⟩,
   ⟨(some 83), .mv (.t 15), none, false, []⟩,
   ⟨(some 84), .bin .sc .mul (.t 83) (.c (.int .i64 3)), none, false, []⟩,
   ⟨(some 85), .mv (.t 1), none, false, []⟩,
   ⟨(some 86), .cint .i64 (.t 85), none, false, []⟩,
   ⟨(some 87), .bin .sc .add (.t 84) (.t 86), none, false, []⟩,
   ⟨(some 88), .bin .sc .rem (.t 87) (.c (.int .i64 4)), none, false, []⟩,
   ⟨(some 89), .iaddr none 5 (.t 82) (.t 88), none, false, []⟩,
   ⟨(some 90), .load true 5 (.t 89), none, false, []⟩,
   ⟨(some 91), .call (.c (.func 19 [] [])) [(.t 81), (.t 90)], none, false, []⟩,
   ⟨(some 92), .not (.t 91), none, false, []⟩] (some [[], [], [0, 1], [0, 1, 2], [], [], [5], [], [7], [5, 6, 7, 8], [5, 6, 7, 8, 9], [4, 5, 6, 7, 8, 9, 10], [4, 5, 6, 7, 8, 9, 10, 11], [0, 1, 2, 3, 4, 5, 6, 7, 8, 9, 10, 11, 12], [0, 1, 2, 3, 4, 5, 6, 7, 8, 9, 10, 11, 12, 13]]))
 (.cond (.t 92) (.seq (.ops [⟨(some 4), .mv (.c (.bool false)), none, false, []⟩] none)
 .ret) .skip)))
 (.ops [⟨(some 76), .mv (.t 15), none, false, []⟩,
   ⟨(some 77), .bin .sc .add (.t 76) (.c (.int .i64 1)), none, false, []⟩,
   ⟨(some 15), .mv (.t 77), none, false, []⟩] none))))))
 (.seq (.ops [⟨(some 93), .call (.c (.func 11 [] [])) [], none, false, []⟩,
   ⟨(some 4), .mv (.t 93), none, false, []⟩] none)
 .ret)))))))))) }
/- warplaw21.one -/
def f10 : AFunc :=
 { np := 1, ntmps := 32, results := [.tmp 2], frz := false, body :=
 (.seq (.ops [⟨(some 2), .mv (.c (.str [])), none, false, []⟩] none)
 (.seq (.ops [⟨(some 6), .mv (.t 0), none, false, []⟩,
   ⟨(some 7), .call (.c (.func 15 [] [])) [(.t 6)], none, false, []⟩,
   ⟨(some 3), .alloc true [.pl [] 0 .nil, .pl [] 0 .nil], none, false, []⟩,
   ⟨none, .store 2 (.t 3) (.t 7), none, false, []⟩] none)
 (.seq (.ops [⟨(some 9), .faddr 0 (.t 3), none, false, []⟩,
   ⟨(some 10), .load false 1 (.t 9), none, false, []⟩,
   ⟨(some 11), .faddr 1 (.t 3), none, false, []⟩,
   ⟨(some 12), .load false 1 (.t 11), none, false, []⟩,
   ⟨(some 13), .call (.c (.func 16 [] [])) [(.c (.pl [] 0 .nil)), (.t 10), (.t 12)], none, false, []⟩,
   ⟨(some 8), .mv (.t 13), none, false, []⟩,
   ⟨(some 14), .extract 0 (.t 8), none, false, []⟩,
   ⟨(some 15), .extract 1 (.t 8), none, false, []⟩,
   ⟨(some 4), .mv (.t 14), none, false, []⟩,
   ⟨(some 5), .mv (.t 15), none, false, []⟩] none)
 (.seq (.seq (.ops [⟨(some 16), .mv (.t 5), none, false, []⟩,
   ⟨(some 17), .call (.c (.func 17 [] [])) [(.t 16)], none, false, []⟩,
   ⟨(some 18), .bin .sc .neq (.t 17) (.c (.int .i64 0)), none, false, []⟩,
   ⟨(some 19), .mv (.t 18), none, false, []⟩,
   ⟨(some 20), .mv (.t 4), (some (19, false)), false, []⟩,
   ⟨(some 21), .len 1 (.t 20), (some (19, false)), false, []⟩,
   ⟨(some 22), .bin .sc .eql (.t 21) (.c (.int .i64 0)), (some (19, false)), false, []⟩,
   ⟨(some 23), .pick (.t 19) (.c (.bool true)) (.t 22), none, false, []⟩] none)
 (.cond (.t 23) (.seq (.ops [⟨(some 2), .mv (.c (.str [])), none, false, []⟩] none)
 .ret) .skip))
 (.seq (.ops [⟨(some 24), .mv (.t 4), none, false, []⟩,
   ⟨(some 25), .mv (.t 4), none, false, []⟩,
   ⟨(some 26), .len 1 (.t 25), none, false, []⟩,
   ⟨(some 27), .bin .sc .sub (.t 26) (.c (.int .i64 1)), none, false, []⟩,
   ⟨(some 28), .iaddr none 5 (.t 24) (.t 27), none, false, []⟩,
   ⟨(some 29), .faddr 1 (.t 28), none, false, []⟩,
   ⟨(some 30), .load true 4 (.t 29), none, false, []⟩,
   ⟨(some 31), .call (.c (.func 18 [] [])) [(.t 30)], none, false, []⟩,
   ⟨(some 2), .mv (.t 31), none, false, []⟩] none)
 .ret))))) }
/- warplaw21.awake -/
def f11 : AFunc :=
 { np := 0, ntmps := 7, results := [.tmp 0], frz := false, body :=
 (.seq (.ops [⟨(some 0), .mv (.c (.bool false)), none, false, []⟩] none)
 (.seq (.ops [⟨(some 1), .call (.c (.func 10 [] [])) [(.c (.str [108, 101, 116, 32, 105, 100, 32, 120, 32, 61, 32, 120, 59]))], none, false, []⟩,
   ⟨(some 2), .bin .sc .eql (.t 1) (.c (.str [97, 32, 45, 62, 32, 97])), none, false, []⟩,
   ⟨(some 3), .mv (.t 2), none, false, []⟩,
   ⟨(some 4), .call (.c (.func 10 [] [])) [(.c (.str [108, 101, 116, 32, 102, 32, 61, 32, 49, 32, 50, 59]))], (some (3, true)), false, []⟩,
   ⟨(some 5), .bin .sc .eql (.t 4) (.c (.str [])), (some (3, true)), false, []⟩,
   ⟨(some 6), .pick (.t 3) (.t 5) (.c (.bool false)), none, false, []⟩,
   ⟨(some 0), .mv (.t 6), none, false, []⟩] none)
 .ret)) }
/- warpref15.Of -/
def f12 : AFunc :=
 { np := 1, ntmps := 9, results := [.cell 2 5 true], frz := false, body :=
 (.seq (.ops [⟨(some 1), .box true (.t 0), none, false, []⟩,
   ⟨(some 2), .alloc true [.int .i64 0, .int .i64 0, .int .i64 0, .str [], .pl [] 0 .nil], none, false, []⟩] none)
 (.seq (.ops [⟨(some 3), .load true 4 (.t 1), none, false, []⟩,
   ⟨(some 4), .call (.c (.func 25 [] [])) [(.t 3)], none, false, []⟩,
   ⟨(some 5), .len 1 (.t 4), none, false, []⟩,
   ⟨(some 6), .load true 4 (.t 1), none, true, []⟩,
   ⟨(some 7), .call (.c (.func 23 [] [])) [(.t 6)], none, false, []⟩,
   ⟨(some 8), .build [.int .i64 0, .int .i64 0, .int .i64 0, .str [], .pl [] 0 .nil] [(0, 1, (.t 5)), (1, 4, (.t 7))], none, false, []⟩,
   ⟨none, .store 5 (.t 2) (.t 8), none, false, []⟩] (some [[], [0], [0, 1], [], [0, 1, 3], [0, 1, 2, 3, 4], [0, 1, 2, 3, 4, 5]]))
 .ret)) }
/- warplaw17.Make -/
def f13 : AFunc :=
 { np := 2, ntmps := 87, results := [.cell 4 4 true], frz := false, body :=
 (.seq (.ops [⟨(some 4), .alloc true [.int .i64 0, .int .i64 0, .str [], .pl [] 0 .nil], none, false, []⟩] none)
 (.seq (.seq (.ops [⟨(some 8), .mv (.t 0), none, false, []⟩,
   ⟨(some 9), .len 1 (.t 8), none, false, []⟩,
   ⟨(some 10), .bin .sc .eql (.t 9) (.c (.int .i64 0)), none, false, []⟩] none)
 (.cond (.t 10) (.seq (.ops [⟨(some 11), .build [.int .i64 0, .int .i64 0, .str [], .pl [] 0 .nil] [(0, 1, (.c (.int .i64 2))), (2, 1, (.c (.str [73, 110, 116])))], none, false, []⟩,
   ⟨none, .store 4 (.t 4) (.t 11), none, false, []⟩] none)
 .ret) .skip))
 (.seq (.ops [⟨(some 12), .mv (.t 0), none, false, []⟩,
   ⟨(some 13), .iaddr none 1 (.t 12) (.c (.int .i64 0)), none, false, []⟩,
   ⟨(some 14), .load false 1 (.t 13), none, false, []⟩,
   ⟨(some 15), .cint .i64 (.t 14), none, false, []⟩,
   ⟨(some 5), .mv (.t 15), none, false, []⟩] none)
 (.seq (.seq (.ops [⟨(some 16), .mv (.t 5), none, false, []⟩,
   ⟨(some 17), .bin .sc .rem (.t 16) (.c (.int .i64 3)), none, false, []⟩,
   ⟨(some 18), .bin .sc .eql (.t 17) (.c (.int .i64 0)), none, false, []⟩,
   ⟨(some 19), .mv (.t 18), none, false, []⟩,
   ⟨(some 20), .mv (.t 1), (some (19, true)), false, []⟩,
   ⟨(some 21), .bin .sc .gtr (.t 20) (.c (.int .i64 0)), (some (19, true)), false, []⟩,
   ⟨(some 22), .pick (.t 19) (.t 21) (.c (.bool false)), none, false, []⟩,
   ⟨(some 23), .mv (.t 22), none, false, []⟩,
   ⟨(some 24), .mv (.t 0), (some (23, false)), false, []⟩,
   ⟨(some 25), .len 1 (.t 24), (some (23, false)), false, []⟩,
   ⟨(some 26), .bin .sc .eql (.t 25) (.c (.int .i64 1)), (some (23, false)), false, []⟩,
   ⟨(some 27), .mv (.t 26), (some (23, false)), false, []⟩,
   ⟨(some 28), .mv (.t 1), (some (27, true)), false, []⟩,
   ⟨(some 29), .bin .sc .gtr (.t 28) (.c (.int .i64 0)), (some (27, true)), false, []⟩,
   ⟨(some 30), .pick (.t 27) (.t 29) (.c (.bool false)), (some (23, false)), false, []⟩,
   ⟨(some 31), .mv (.t 30), (some (23, false)), false, []⟩,
   ⟨(some 32), .mv (.t 5), (some (31, true)), false, []⟩,
   ⟨(some 33), .bin .sc .rem (.t 32) (.c (.int .i64 3)), (some (31, true)), false, []⟩,
   ⟨(some 34), .bin .sc .eql (.t 33) (.c (.int .i64 1)), (some (31, true)), false, []⟩,
   ⟨(some 35), .pick (.t 31) (.t 34) (.c (.bool false)), (some (23, false)), false, []⟩,
   ⟨(some 36), .pick (.t 23) (.c (.bool true)) (.t 35), none, false, []⟩] none)
 (.cond (.t 36) (.seq (.ops [⟨(some 37), .mv (.t 5), none, false, []⟩,
   ⟨(some 38), .bin .sc .quo (.t 37) (.c (.int .i64 3)), none, false, []⟩,
   ⟨(some 39), .mv (.t 1), none, false, []⟩,
   ⟨(some 40), .bin .sc .rem (.t 38) (.t 39), none, false, []⟩,
   ⟨(some 41), .call (.c (.func 14 [] [])) [(.t 40)], none, false, []⟩,
   ⟨none, .store 4 (.t 4) (.t 41), none, false, []⟩] none)
 .ret) .skip))
 (.seq (.ops [⟨(some 42), .mv (.t 0), none, false, []⟩,
   ⟨(some 43), .sliceL 1 (.t 42) (some (.c (.int .i64 1))) none none, none, false, []⟩,
   ⟨(some 6), .mv (.t 43), none, false, []⟩] none)
 (.seq (.ops [⟨(some 44), .mv (.t 6), none, false, []⟩,
   ⟨(some 45), .mv (.t 6), none, false, []⟩,
   ⟨(some 46), .len 1 (.t 45), none, false, []⟩,
   ⟨(some 47), .bin .sc .quo (.t 46) (.c (.int .i64 2)), none, false, []⟩,
   ⟨(some 48), .sliceL 1 (.t 44) (some (.t 47)) none none, none, false, []⟩,
   ⟨(some 7), .mv (.t 48), none, false, []⟩] none)
 (.seq (.seq (.ops [⟨(some 49), .mv (.t 5), none, false, []⟩,
   ⟨(some 50), .bin .sc .quo (.t 49) (.c (.int .i64 3)), none, false, []⟩,
   ⟨(some 51), .bin .sc .rem (.t 50) (.c (.int .i64 5)), none, false, []⟩] none)
 (.block 0 (.seq (.ops [⟨(some 53), .bin .sc .eql (.t 51) (.c (.int .i64 0)), none, false, []⟩,
   ⟨(some 52), .mv (.t 53), none, false, []⟩] none)
 (.cond (.t 52) (.seq (.ops [⟨(some 54), .bslice false 2 [.str [], .str []] [(0, 1, (.c (.str [73, 110, 116]))), (1, 1, (.c (.str [66, 111, 111, 108])))], none, false, []⟩,
   ⟨(some 55), .mv (.t 5), none, false, []⟩,
   ⟨(some 56), .bin .sc .quo (.t 55) (.c (.int .i64 15)), none, false, []⟩,
   ⟨(some 57), .bin .sc .rem (.t 56) (.c (.int .i64 2)), none, false, []⟩,
   ⟨(some 58), .iaddr none 1 (.t 54) (.t 57), none, false, []⟩,
   ⟨(some 59), .load false 1 (.t 58), none, false, []⟩,
   ⟨(some 60), .build [.int .i64 0, .int .i64 0, .str [], .pl [] 0 .nil] [(0, 1, (.c (.int .i64 2))), (2, 1, (.t 59))], none, false, []⟩,
   ⟨none, .store 4 (.t 4) (.t 60), none, false, []⟩] none)
 .ret) (.seq (.seq (.ops [⟨(some 62), .bin .sc .eql (.t 51) (.c (.int .i64 1)), none, false, []⟩,
   ⟨(some 61), .mv (.t 62), none, false, []⟩] none)
 (.cond (.t 61) .skip (.ops [⟨(some 63), .bin .sc .eql (.t 51) (.c (.int .i64 2)), none, false, []⟩,
   ⟨(some 61), .mv (.t 63), none, false, []⟩] none)))
 (.cond (.t 61) (.seq (.ops [⟨(some 64), .mv (.t 6), none, false, []⟩,
   ⟨(some 65), .mv (.t 1), none, false, []⟩,
   ⟨(some 66), .call (.c (.func 13 [] [])) [(.t 64), (.t 65)], none, false, []⟩,
   ⟨(some 67), .mv (.t 7), none, false, []⟩,
   ⟨(some 68), .mv (.t 1), none, false, []⟩,
   ⟨(some 69), .call (.c (.func 13 [] [])) [(.t 67), (.t 68)], none, false, []⟩,
   ⟨(some 70), .bslice false 2 [.int .i64 0, .int .i64 0, .str [], .pl [] 0 .nil, .int .i64 0, .int .i64 0, .str [], .pl [] 0 .nil] [(0, 4, (.t 66)), (4, 4, (.t 69))], none, false, []⟩,
   ⟨(some 71), .build [.int .i64 0, .int .i64 0, .str [], .pl [] 0 .nil] [(0, 1, (.c (.int .i64 2))), (2, 1, (.c (.str [45, 62]))), (3, 1, (.t 70))], none, false, []⟩,
   ⟨none, .store 4 (.t 4) (.t 71), none, false, []⟩] none)
 .ret) (.seq (.ops [⟨(some 73), .bin .sc .eql (.t 51) (.c (.int .i64 3)), none, false, []⟩,
   ⟨(some 72), .mv (.t 73), none, false, []⟩] none)
 (.cond (.t 72) (.seq (.ops [⟨(some 74), .mv (.t 7), none, false, []⟩,
   ⟨(some 75), .mv (.t 1), none, false, []⟩,
   ⟨(some 76), .call (.c (.func 13 [] [])) [(.t 74), (.t 75)], none, false, []⟩,
   ⟨(some 77), .mv (.t 6), none, false, []⟩,
   ⟨(some 78), .mv (.t 1), none, false, []⟩,
   ⟨(some 79), .call (.c (.func 13 [] [])) [(.t 77), (.t 78)], none, false, []⟩,
   ⟨(some 80), .bslice false 2 [.int .i64 0, .int .i64 0, .str [], .pl [] 0 .nil, .int .i64 0, .int .i64 0, .str [], .pl [] 0 .nil] [(0, 4, (.t 76)), (4, 4, (.t 79))], none, false, []⟩,
   ⟨(some 81), .build [.int .i64 0, .int .i64 0, .str [], .pl [] 0 .nil] [(0, 1, (.c (.int .i64 2))), (2, 1, (.c (.str [44]))), (3, 1, (.t 80))], none, false, []⟩,
   ⟨none, .store 4 (.t 4) (.t 81), none, false, []⟩] none)
 .ret) .skip))))))))
 (.seq (.ops [⟨(some 82), .mv (.t 6), none, false, []⟩,
   ⟨(some 83), .mv (.t 1), none, false, []⟩,
   ⟨(some 84), .call (.c (.func 13 [] [])) [(.t 82), (.t 83)], none, false, []⟩,
   ⟨(some 85), .bslice false 1 [.int .i64 0, .int .i64 0, .str [], .pl [] 0 .nil] [(0, 4, (.t 84))], none, false, []⟩,
   ⟨(some 86), .build [.int .i64 0, .int .i64 0, .str [], .pl [] 0 .nil] [(0, 1, (.c (.int .i64 2))), (2, 1, (.c (.str [76, 105, 115, 116]))), (3, 1, (.t 85))], none, false, []⟩,
   ⟨none, .store 4 (.t 4) (.t 86), none, false, []⟩] none)
 .ret)))))))) }
/- warpref15.Var -/
def f14 : AFunc :=
 { np := 1, ntmps := 5, results := [.cell 2 4 true], frz := false, body :=
 (.seq (.ops [⟨(some 2), .alloc true [.int .i64 0, .int .i64 0, .str [], .pl [] 0 .nil], none, false, []⟩] none)
 (.seq (.ops [⟨(some 3), .mv (.t 0), none, false, []⟩,
   ⟨(some 4), .build [.int .i64 0, .int .i64 0, .str [], .pl [] 0 .nil] [(0, 1, (.c (.int .i64 1))), (1, 1, (.t 3))], none, false, []⟩,
   ⟨none, .store 4 (.t 2) (.t 4), none, false, []⟩] none)
 .ret)) }
/- warplaw21.Binds -/
def f15 : AFunc :=
 { np := 1, ntmps := 8, results := [.cell 2 2 true], frz := false, body :=
 (.seq (.ops [⟨(some 2), .alloc true [.pl [] 0 .nil, .pl [] 0 .nil], none, false, []⟩] none)
 (.seq (.ops [⟨(some 3), .call (.c (.func 27 [] [])) [], none, false, []⟩,
   ⟨(some 4), .mv (.t 0), none, false, []⟩,
   ⟨(some 5), .bin .sc .add (.t 3) (.t 4), none, false, []⟩,
   ⟨(some 6), .call (.c (.func 26 [] [])) [(.t 5)], none, false, []⟩,
   ⟨(some 7), .field true 0 2 (.t 6), none, false, []⟩,
   ⟨none, .store 2 (.t 2) (.t 7), none, false, []⟩] none)
 .ret)) }
/- infer.Group -/
def f16 : AFunc :=
 { np := 3, ntmps := 126, results := [.tmp 6, .tmp 7], frz := true, body :=
 (.seq (.ops [⟨(some 6), .mv (.c (.pl [] 0 .nil)), none, false, []⟩,
   ⟨(some 7), .mv (.c (.int .i64 0)), none, false, []⟩] none)
 (.seq (.ops [⟨(some 21), .mkmap, none, false, []⟩,
   ⟨(some 22), .mv (.t 1), none, false, []⟩,
   ⟨(some 23), .mkmap, none, false, []⟩,
   ⟨(some 24), .build [.pl [] 0 .nil, .pl [] 0 .nil, .int .i64 0, .nilm, .pl [] 0 .nil, .nilm, .bool false] [(3, 1, (.t 21)), (4, 1, (.t 22)), (5, 1, (.t 23))], none, false, []⟩,
   ⟨(some 25), .box false (.t 24), none, false, []⟩,
   ⟨(some 8), .mv (.t 25), none, false, []⟩] none)
 (.seq (.seq (.ops [⟨(some 26), .mv (.t 0), none, false, []⟩,
   ⟨(some 27), .len 1 (.t 26), none, false, []⟩,
   ⟨(some 28), .mv (.c (.int .i64 0)), none, false, []⟩] none)
 (.block 0 (.loop (.seq (.ops [⟨(some 29), .bin .sc .lss (.t 28) (.t 27), none, false, []⟩] none)
 (.seq (.cond (.t 29) .skip (.exit 0))
 (.seq (.block 1 (.seq (.ops [⟨(some 30), .iaddr none 6 (.t 26) (.t 28), none, false, []⟩,
   ⟨(some 31), .load true 6 (.t 30), none, false, []⟩,
   ⟨(some 10), .alloc true [.str [], .int .i64 0, .int .i64 0, .int .i64 0, .str [], .pl [] 0 .nil], none, false, []⟩,
   ⟨none, .store 6 (.t 10) (.t 31), none, false, []⟩] none)
 (.seq (.ops [⟨(some 33), .mv (.t 8), none, false, []⟩,
   ⟨(some 34), .nilck (.t 33), none, false, []⟩,
   ⟨(some 35), .faddr 3 (.t 34), none, false, []⟩,
   ⟨(some 36), .load false 1 (.t 35), none, false, []⟩,
   ⟨(some 37), .faddr 0 (.t 10), none, false, []⟩,
   ⟨(some 38), .load false 1 (.t 37), none, false, []⟩,
   ⟨(some 39), .build [.str []] [(0, 1, (.t 38))], none, false, []⟩,
   ⟨(some 40), .lookup (.flat [.s]) (.agg [.int .i64 0, .int .i64 0, .int .i64 0, .str [], .pl [] 0 .nil]) true (.t 36) (.t 39), none, false, []⟩,
   ⟨(some 32), .mv (.t 40), none, false, []⟩,
   ⟨(some 41), .extract 0 (.t 32), none, false, []⟩,
   ⟨(some 42), .extract 1 (.t 32), none, false, []⟩,
   ⟨(some 11), .alloc true [.int .i64 0, .int .i64 0, .int .i64 0, .str [], .pl [] 0 .nil], none, false, []⟩,
   ⟨none, .store 5 (.t 11) (.t 41), none, false, []⟩,
   ⟨(some 12), .mv (.t 42), none, false, []⟩] (some [[], [0], [0, 1], [0, 1, 2], [], [4], [4, 5], [0, 1, 2, 3, 4, 5, 6], [0, 1, 2, 3, 4, 5, 6, 7], [0, 1, 2, 3, 4, 5, 6, 7, 8], [0, 1, 2, 3, 4, 5, 6, 7, 8], [], [0, 1, 2, 3, 4, 5, 6, 7, 8, 9, 11], [0, 1, 2, 3, 4, 5, 6, 7, 8, 9, 10, 11, 12]]))
 (.seq (.ops [⟨(some 43), .mv (.t 12), none, false, []⟩,
   ⟨(some 44), .not (.t 43), none, false, []⟩] none)
 (.cond (.t 44) (.ops [⟨(some 45), .mv (.t 8), none, false, []⟩,
   ⟨(some 46), .nilck (.t 45), none, false, []⟩,
   ⟨(some 47), .faddr 3 (.t 46), none, false, []⟩,
   ⟨(some 48), .load false 1 (.t 47), none, false, []⟩,
   ⟨(some 49), .faddr 0 (.t 10), none, false, []⟩,
   ⟨(some 50), .load false 1 (.t 49), none, false, []⟩,
   ⟨(some 51), .build [.str []] [(0, 1, (.t 50))], none, false, []⟩,
   ⟨(some 52), .faddr 1 (.t 10), none, false, []⟩,
   ⟨(some 53), .load true 5 (.t 52), none, false, []⟩,
   ⟨none, .mupd (.flat [.s]) (.t 48) (.t 51) (.t 53), none, false, []⟩] (some [[], [0], [0, 1], [0, 1, 2], [], [4], [4, 5], [], [7], [0, 1, 2, 3, 4, 5, 6, 7, 8]])) .skip)))))
 (.ops [⟨(some 54), .bin .sc .add (.t 28) (.c (.int .i64 1)), none, false, []⟩,
   ⟨(some 28), .mv (.t 54), none, false, []⟩] none)))))))
 (.seq (.ops [⟨(some 55), .mv (.t 8), none, false, []⟩,
   ⟨(some 56), .nilck (.t 55), none, false, []⟩,
   ⟨(some 57), .faddr 0 (.t 56), none, false, []⟩,
   ⟨(some 58), .mv (.t 2), none, false, []⟩,
   ⟨(some 59), .len 1 (.t 58), none, false, []⟩,
   ⟨(some 60), .call (.c (.func 28 [] [])) [(.t 57), (.t 59)], none, false, []⟩,
   ⟨(some 13), .mv (.t 60), none, false, []⟩] none)
 (.seq (.seq (.ops [⟨(some 61), .mv (.t 2), none, false, []⟩,
   ⟨(some 62), .len 1 (.t 61), none, false, []⟩,
   ⟨(some 63), .mv (.c (.int .i64 0)), none, false, []⟩] none)
 (.block 2 (.loop (.seq (.ops [⟨(some 64), .bin .sc .lss (.t 63) (.t 62), none, false, []⟩] none)
 (.seq (.cond (.t 64) .skip (.exit 2))
 (.seq (.block 3 (.seq (.ops [⟨(some 65), .mv (.t 63), none, false, []⟩,
   ⟨(some 66), .iaddr none 8 (.t 61) (.t 63), none, false, []⟩,
   ⟨(some 67), .load true 8 (.t 66), none, false, []⟩,
   ⟨(some 15), .alloc true [.str [], .int .i64 0, .int .i64 0, .int .i64 0, .str [], .int .i64 0, .pl [] 0 .nil, .pl [] 0 .nil], none, false, []⟩,
   ⟨(some 14), .mv (.t 65), none, false, []⟩,
   ⟨none, .store 8 (.t 15) (.t 67), none, false, []⟩] none)
 (.ops [⟨(some 68), .mv (.t 8), none, false, []⟩,
   ⟨(some 69), .faddr 0 (.t 15), none, false, []⟩,
   ⟨(some 70), .load false 1 (.t 69), none, false, []⟩,
   ⟨(some 71), .mv (.t 13), none, false, []⟩,
   ⟨(some 72), .mv (.t 14), none, false, []⟩,
   ⟨(some 73), .iaddr none 1 (.t 71) (.t 72), none, false, []⟩,
   ⟨(some 74), .load false 1 (.t 73), none, false, []⟩,
   ⟨(some 75), .build [.int .i64 0, .bool false] [(0, 1, (.t 74))], none, false, []⟩,
   ⟨(some 76), .call (.c (.func 29 [] [])) [(.t 68), (.t 70), (.t 75)], none, false, []⟩] (some [[], [], [1], [], [], [3, 4], [3, 4, 5], [3, 4, 5, 6], [0, 1, 2, 3, 4, 5, 6, 7]]))))
 (.ops [⟨(some 77), .bin .sc .add (.t 63) (.c (.int .i64 1)), none, false, []⟩,
   ⟨(some 63), .mv (.t 77), none, false, []⟩] none)))))))
 (.seq (.seq (.ops [⟨(some 78), .mv (.t 2), none, false, []⟩,
   ⟨(some 79), .len 1 (.t 78), none, false, []⟩,
   ⟨(some 80), .mv (.c (.int .i64 0)), none, false, []⟩] none)
 (.block 4 (.loop (.seq (.ops [⟨(some 81), .bin .sc .lss (.t 80) (.t 79), none, false, []⟩] none)
 (.seq (.cond (.t 81) .skip (.exit 4))
 (.seq (.block 5 (.seq (.ops [⟨(some 82), .mv (.t 80), none, false, []⟩,
   ⟨(some 83), .iaddr none 8 (.t 78) (.t 80), none, false, []⟩,
   ⟨(some 84), .load true 8 (.t 83), none, false, []⟩,
   ⟨(some 17), .alloc true [.str [], .int .i64 0, .int .i64 0, .int .i64 0, .str [], .int .i64 0, .pl [] 0 .nil, .pl [] 0 .nil], none, false, []⟩,
   ⟨(some 16), .mv (.t 82), none, false, []⟩,
   ⟨none, .store 8 (.t 17) (.t 84), none, false, []⟩] none)
 (.ops [⟨(some 85), .mv (.t 8), none, false, []⟩,
   ⟨(some 86), .mv (.t 8), none, false, []⟩,
   ⟨(some 87), .faddr 2 (.t 17), none, false, []⟩,
   ⟨(some 88), .load true 6 (.t 87), none, false, []⟩,
   ⟨(some 89), .call (.c (.func 31 [] [])) [(.t 86), (.t 88)], none, false, []⟩,
   ⟨(some 90), .mv (.t 13), none, false, []⟩,
   ⟨(some 91), .mv (.t 16), none, false, []⟩,
   ⟨(some 92), .iaddr none 1 (.t 90) (.t 91), none, false, []⟩,
   ⟨(some 93), .load false 1 (.t 92), none, true, []⟩,
   ⟨(some 94), .call (.c (.func 30 [] [])) [(.t 85), (.t 89), (.t 93)], none, false, []⟩] (some [[], [], [], [2], [1, 2, 3], [], [], [5, 6], [5, 6, 7], [0, 1, 2, 3, 4, 5, 6, 7, 8]]))))
 (.ops [⟨(some 95), .bin .sc .add (.t 80) (.c (.int .i64 1)), none, false, []⟩,
   ⟨(some 80), .mv (.t 95), none, false, []⟩] none)))))))
 (.seq (.ops [⟨(some 18), .mv (.c (.pl [] 0 .nil)), none, false, []⟩] none)
 (.seq (.seq (.ops [⟨(some 96), .mv (.t 13), none, false, []⟩,
   ⟨(some 97), .len 1 (.t 96), none, false, []⟩,
   ⟨(some 98), .mv (.c (.int .i64 0)), none, false, []⟩] none)
 (.block 6 (.loop (.seq (.ops [⟨(some 99), .bin .sc .lss (.t 98) (.t 97), none, false, []⟩] none)
 (.seq (.cond (.t 99) .skip (.exit 6))
 (.seq (.block 7 (.seq (.ops [⟨(some 100), .iaddr none 1 (.t 96) (.t 98), none, false, []⟩,
   ⟨(some 101), .load false 1 (.t 100), none, false, []⟩,
   ⟨(some 20), .mv (.t 101), none, false, []⟩] none)
 (.seq (.seq (.ops [⟨(some 102), .mv (.t 8), none, false, []⟩,
   ⟨(some 103), .nilck (.t 102), none, false, []⟩,
   ⟨(some 104), .faddr 6 (.t 103), none, false, []⟩,
   ⟨(some 105), .load false 1 (.t 104), none, false, []⟩,
   ⟨(some 106), .mv (.t 105), none, false, []⟩,
   ⟨(some 107), .mv (.t 8), (some (106, false)), false, []⟩,
   ⟨(some 108), .nilck (.t 107), (some (106, false)), false, []⟩,
   ⟨(some 109), .faddr 0 (.t 108), (some (106, false)), false, []⟩,
   ⟨(some 110), .mv (.t 20), (some (106, false)), false, []⟩,
   ⟨(some 111), .call (.c (.func 32 [] [])) [(.t 109), (.t 110)], (some (106, false)), false, []⟩,
   ⟨(some 112), .not (.t 111), (some (106, false)), false, []⟩,
   ⟨(some 113), .pick (.t 106) (.c (.bool true)) (.t 112), none, false, []⟩] none)
 (.cond (.t 113) (.seq (.ops [⟨(some 6), .mv (.c (.pl [] 0 .nil)), none, false, []⟩,
   ⟨(some 7), .mv (.c (.int .i64 8)), none, false, []⟩] none)
 .ret) .skip))
 (.ops [⟨(some 114), .mv (.t 18), none, false, []⟩,
   ⟨(some 115), .mv (.t 8), none, false, []⟩,
   ⟨(some 116), .nilck (.t 115), none, false, []⟩,
   ⟨(some 117), .faddr 0 (.t 116), none, false, []⟩,
   ⟨(some 118), .mv (.t 20), none, false, []⟩,
   ⟨(some 119), .mkmap, none, false, []⟩,
   ⟨(some 120), .call (.c (.func 34 [] [])) [(.t 117), (.t 118), (.t 119)], none, false, []⟩,
   ⟨(some 121), .call (.c (.func 33 [] [])) [(.t 120)], none, false, []⟩,
   ⟨(some 122), .bslice false 1 [.int .i64 0, .int .i64 0, .int .i64 0, .str [], .pl [] 0 .nil] [(0, 5, (.t 121))], none, false, []⟩,
   ⟨(some 123), .app false 5 64 (.t 114) (.t 122), none, false, []⟩,
   ⟨(some 18), .mv (.t 123), none, false, []⟩] none))))
 (.ops [⟨(some 124), .bin .sc .add (.t 98) (.c (.int .i64 1)), none, false, []⟩,
   ⟨(some 98), .mv (.t 124), none, false, []⟩] none)))))))
 (.seq (.ops [⟨(some 125), .mv (.t 18), none, false, []⟩,
   ⟨(some 6), .mv (.t 125), none, false, []⟩,
   ⟨(some 7), .mv (.c (.int .i64 0)), none, false, []⟩] none)
 .ret))))))))) }
/- warplaw1.Num -/
def f17 : AFunc :=
 { np := 1, ntmps := 4, results := [.tmp 2], frz := false, body :=
 (.seq (.ops [⟨(some 2), .mv (.c (.int .i64 0)), none, false, []⟩] none)
 (.seq (.ops [⟨(some 3), .mv (.t 0), none, false, []⟩,
   ⟨(some 2), .mv (.t 3), none, false, []⟩] none)
 .ret)) }
/- warpref15.Text -/
def f18 : AFunc :=
 { np := 1, ntmps := 118, results := [.tmp 2], frz := false, body :=
 (.seq (.ops [⟨(some 1), .box true (.t 0), none, false, []⟩,
   ⟨(some 2), .mv (.c (.str [])), none, false, []⟩] none)
 (.seq (.seq (.ops [⟨(some 11), .faddr 0 (.t 1), none, false, []⟩,
   ⟨(some 12), .load false 1 (.t 11), none, false, []⟩,
   ⟨(some 13), .bin .sc .eql (.t 12) (.c (.int .i64 1)), none, false, []⟩] none)
 (.cond (.t 13) (.seq (.ops [⟨(some 14), .faddr 1 (.t 1), none, false, []⟩,
   ⟨(some 15), .load false 1 (.t 14), none, false, []⟩,
   ⟨(some 16), .bin .sc .rem (.t 15) (.c (.int .i64 26)), none, false, []⟩,
   ⟨(some 17), .bin .sc .add (.c (.int .i64 97)) (.t 16), none, false, []⟩,
   ⟨(some 18), .cint .u8 (.t 17), none, false, []⟩,
   ⟨(some 19), .bslice false 1 [.int .u8 0] [(0, 1, (.t 18))], none, false, []⟩,
   ⟨(some 20), .bstr (.t 19), none, false, []⟩,
   ⟨(some 3), .mv (.t 20), none, false, []⟩] none)
 (.seq (.seq (.ops [⟨(some 21), .faddr 1 (.t 1), none, false, []⟩,
   ⟨(some 22), .load false 1 (.t 21), none, false, []⟩,
   ⟨(some 23), .bin .sc .geq (.t 22) (.c (.int .i64 26)), none, false, []⟩] none)
 (.cond (.t 23) (.ops [⟨(some 24), .mv (.t 3), none, false, []⟩,
   ⟨(some 25), .faddr 1 (.t 1), none, false, []⟩,
   ⟨(some 26), .load false 1 (.t 25), none, false, []⟩,
   ⟨(some 27), .bin .sc .quo (.t 26) (.c (.int .i64 26)), none, false, []⟩,
   ⟨(some 28), .call (.c (.func 35 [] [])) [(.t 27)], none, false, []⟩,
   ⟨(some 29), .bin .sc .add (.t 24) (.t 28), none, false, []⟩,
   ⟨(some 3), .mv (.t 29), none, false, []⟩] none) .skip))
 (.seq (.ops [⟨(some 30), .mv (.t 3), none, false, []⟩,
   ⟨(some 2), .mv (.t 30), none, false, []⟩] none)
 .ret))) .skip))
 (.seq (.seq (.ops [⟨(some 31), .faddr 2 (.t 1), none, false, []⟩,
   ⟨(some 32), .load false 1 (.t 31), none, false, []⟩] none)
 (.block 0 (.seq (.ops [⟨(some 34), .bin .sc .eql (.t 32) (.c (.str [45, 62])), none, false, []⟩,
   ⟨(some 33), .mv (.t 34), none, false, []⟩] none)
 (.cond (.t 33) (.seq (.ops [⟨(some 35), .faddr 3 (.t 1), none, false, []⟩,
   ⟨(some 36), .load false 1 (.t 35), none, false, []⟩,
   ⟨(some 37), .iaddr none 4 (.t 36) (.c (.int .i64 0)), none, false, []⟩,
   ⟨(some 38), .load true 4 (.t 37), none, false, []⟩,
   ⟨(some 39), .call (.c (.func 18 [] [])) [(.t 38)], none, false, []⟩,
   ⟨(some 4), .mv (.t 39), none, false, []⟩] none)
 (.seq (.seq (.ops [⟨(some 40), .faddr 3 (.t 1), none, false, []⟩,
   ⟨(some 41), .load false 1 (.t 40), none, false, []⟩,
   ⟨(some 42), .iaddr none 4 (.t 41) (.c (.int .i64 0)), none, false, []⟩,
   ⟨(some 43), .faddr 2 (.t 42), none, false, []⟩,
   ⟨(some 44), .load false 1 (.t 43), none, false, []⟩,
   ⟨(some 45), .bin .sc .eql (.t 44) (.c (.str [45, 62])), none, false, []⟩] none)
 (.cond (.t 45) (.ops [⟨(some 46), .mv (.t 4), none, false, []⟩,
   ⟨(some 47), .bin .sc .add (.c (.str [40])) (.t 46), none, false, []⟩,
   ⟨(some 48), .bin .sc .add (.t 47) (.c (.str [41])), none, false, []⟩,
   ⟨(some 4), .mv (.t 48), none, false, []⟩] none) .skip))
 (.seq (.ops [⟨(some 49), .mv (.t 4), none, false, []⟩,
   ⟨(some 50), .bin .sc .add (.t 49) (.c (.str [32, 45, 62, 32])), none, false, []⟩,
   ⟨(some 51), .faddr 3 (.t 1), none, false, []⟩,
   ⟨(some 52), .load false 1 (.t 51), none, false, []⟩,
   ⟨(some 53), .iaddr none 4 (.t 52) (.c (.int .i64 1)), none, false, []⟩,
   ⟨(some 54), .load true 4 (.t 53), none, false, []⟩,
   ⟨(some 55), .call (.c (.func 18 [] [])) [(.t 54)], none, false, []⟩,
   ⟨(some 56), .bin .sc .add (.t 50) (.t 55), none, false, []⟩,
   ⟨(some 2), .mv (.t 56), none, false, []⟩] none)
 .ret))) (.seq (.ops [⟨(some 58), .bin .sc .eql (.t 32) (.c (.str [44])), none, false, []⟩,
   ⟨(some 57), .mv (.t 58), none, false, []⟩] none)
 (.cond (.t 57) (.seq (.ops [⟨(some 5), .mv (.c (.str [40])), none, false, []⟩] none)
 (.seq (.seq (.ops [⟨(some 6), .mv (.c (.int .i64 0)), none, false, []⟩] none)
 (.block 1 (.loop (.seq (.seq (.ops [⟨(some 59), .mv (.t 6), none, false, []⟩,
   ⟨(some 60), .faddr 3 (.t 1), none, false, []⟩,
   ⟨(some 61), .load false 1 (.t 60), none, false, []⟩,
   ⟨(some 62), .len 1 (.t 61), none, false, []⟩,
   ⟨(some 63), .bin .sc .lss (.t 59) (.t 62), none, false, []⟩] none)
 (.cond (.t 63) .skip (.exit 1)))
 (.seq (.block 2 (.seq (.seq (.ops [⟨(some 66), .mv (.t 6), none, false, []⟩,
   ⟨(some 67), .bin .sc .gtr (.t 66) (.c (.int .i64 0)), none, false, []⟩] none)
 (.cond (.t 67) (.ops [⟨(some 68), .mv (.t 5), none, false, []⟩,
   ⟨(some 69), .bin .sc .add (.t 68) (.c (.str [44, 32])), none, false, []⟩,
   ⟨(some 5), .mv (.t 69), none, false, []⟩] none) .skip))
 (.ops [⟨(some 70), .mv (.t 5), none, false, []⟩,
   ⟨(some 71), .faddr 3 (.t 1), none, false, []⟩,
   ⟨(some 72), .load false 1 (.t 71), none, false, []⟩,
   ⟨(some 73), .mv (.t 6), none, false, []⟩,
   ⟨(some 74), .iaddr none 4 (.t 72) (.t 73), none, false, []⟩,
   ⟨(some 75), .load true 4 (.t 74), none, false, []⟩,
   ⟨(some 76), .call (.c (.func 18 [] [])) [(.t 75)], none, false, []⟩,
   ⟨(some 77), .bin .sc .add (.t 70) (.t 76), none, false, []⟩,
   ⟨(some 5), .mv (.t 77), none, false, []⟩] none)))
 (.ops [⟨(some 64), .mv (.t 6), none, false, []⟩,
   ⟨(some 65), .bin .sc .add (.t 64) (.c (.int .i64 1)), none, false, []⟩,
   ⟨(some 6), .mv (.t 65), none, false, []⟩] none))))))
 (.seq (.ops [⟨(some 78), .mv (.t 5), none, false, []⟩,
   ⟨(some 79), .bin .sc .add (.t 78) (.c (.str [41])), none, false, []⟩,
   ⟨(some 2), .mv (.t 79), none, false, []⟩] none)
 .ret))) .skip))))))
 (.seq (.ops [⟨(some 80), .faddr 2 (.t 1), none, false, []⟩,
   ⟨(some 81), .load false 1 (.t 80), none, false, []⟩,
   ⟨(some 7), .mv (.t 81), none, false, []⟩] none)
 (.seq (.seq (.ops [⟨(some 8), .mv (.c (.int .i64 0)), none, false, []⟩] none)
 (.block 3 (.loop (.seq (.seq (.ops [⟨(some 82), .mv (.t 8), none, false, []⟩,
   ⟨(some 83), .faddr 3 (.t 1), none, false, []⟩,
   ⟨(some 84), .load false 1 (.t 83), none, false, []⟩,
   ⟨(some 85), .len 1 (.t 84), none, false, []⟩,
   ⟨(some 86), .bin .sc .lss (.t 82) (.t 85), none, false, []⟩] none)
 (.cond (.t 86) .skip (.exit 3)))
 (.seq (.block 4 (.seq (.ops [⟨(some 89), .faddr 3 (.t 1), none, false, []⟩,
   ⟨(some 90), .load false 1 (.t 89), none, false, []⟩,
   ⟨(some 91), .mv (.t 8), none, false, []⟩,
   ⟨(some 92), .iaddr none 4 (.t 90) (.t 91), none, false, []⟩,
   ⟨(some 93), .load true 4 (.t 92), none, false, []⟩,
   ⟨(some 9), .alloc true [.int .i64 0, .int .i64 0, .str [], .pl [] 0 .nil], none, false, []⟩,
   ⟨none, .store 4 (.t 9) (.t 93), none, false, []⟩] none)
 (.seq (.ops [⟨(some 94), .load true 4 (.t 9), none, false, []⟩,
   ⟨(some 95), .call (.c (.func 18 [] [])) [(.t 94)], none, false, []⟩,
   ⟨(some 10), .mv (.t 95), none, false, []⟩] none)
 (.seq (.seq (.ops [⟨(some 96), .faddr 2 (.t 9), none, false, []⟩,
   ⟨(some 97), .load false 1 (.t 96), none, false, []⟩,
   ⟨(some 98), .bin .sc .eql (.t 97) (.c (.str [45, 62])), none, false, []⟩,
   ⟨(some 99), .mv (.t 98), none, false, []⟩,
   ⟨(some 100), .faddr 3 (.t 9), (some (99, false)), false, []⟩,
   ⟨(some 101), .load false 1 (.t 100), (some (99, false)), false, []⟩,
   ⟨(some 102), .len 1 (.t 101), (some (99, false)), false, []⟩,
   ⟨(some 103), .bin .sc .gtr (.t 102) (.c (.int .i64 0)), (some (99, false)), false, []⟩,
   ⟨(some 104), .mv (.t 103), (some (99, false)), false, []⟩,
   ⟨(some 105), .faddr 2 (.t 9), (some (104, true)), false, []⟩,
   ⟨(some 106), .load false 1 (.t 105), (some (104, true)), false, []⟩,
   ⟨(some 107), .bin .sc .neq (.t 106) (.c (.str [44])), (some (104, true)), false, []⟩,
   ⟨(some 108), .pick (.t 104) (.t 107) (.c (.bool false)), (some (99, false)), false, []⟩,
   ⟨(some 109), .pick (.t 99) (.c (.bool true)) (.t 108), none, false, []⟩] none)
 (.cond (.t 109) (.ops [⟨(some 110), .mv (.t 10), none, false, []⟩,
   ⟨(some 111), .bin .sc .add (.c (.str [40])) (.t 110), none, false, []⟩,
   ⟨(some 112), .bin .sc .add (.t 111) (.c (.str [41])), none, false, []⟩,
   ⟨(some 10), .mv (.t 112), none, false, []⟩] none) .skip))
 (.ops [⟨(some 113), .mv (.t 7), none, false, []⟩,
   ⟨(some 114), .bin .sc .add (.t 113) (.c (.str [32])), none, false, []⟩,
   ⟨(some 115), .mv (.t 10), none, false, []⟩,
   ⟨(some 116), .bin .sc .add (.t 114) (.t 115), none, false, []⟩,
   ⟨(some 7), .mv (.t 116), none, false, []⟩] none)))))
 (.ops [⟨(some 87), .mv (.t 8), none, false, []⟩,
   ⟨(some 88), .bin .sc .add (.t 87) (.c (.int .i64 1)), none, false, []⟩,
   ⟨(some 8), .mv (.t 88), none, false, []⟩] none))))))
 (.seq (.ops [⟨(some 117), .mv (.t 7), none, false, []⟩,
   ⟨(some 2), .mv (.t 117), none, false, []⟩] none)
 .ret)))))) }
/- warpref15.SameScheme -/
def f19 : AFunc :=
 { np := 2, ntmps := 17, results := [.tmp 4], frz := false, body :=
 (.seq (.ops [⟨(some 2), .box true (.t 0), none, false, []⟩,
   ⟨(some 3), .box true (.t 1), none, false, []⟩,
   ⟨(some 4), .mv (.c (.bool false)), none, false, []⟩] none)
 (.seq (.ops [⟨(some 5), .faddr 0 (.t 2), none, false, []⟩,
   ⟨(some 6), .load false 1 (.t 5), none, false, []⟩,
   ⟨(some 7), .faddr 0 (.t 3), none, false, []⟩,
   ⟨(some 8), .load false 1 (.t 7), none, false, []⟩,
   ⟨(some 9), .bin .sc .eql (.t 6) (.t 8), none, false, []⟩,
   ⟨(some 10), .mv (.t 9), none, false, []⟩,
   ⟨(some 11), .faddr 1 (.t 2), (some (10, true)), false, []⟩,
   ⟨(some 12), .load true 4 (.t 11), (some (10, true)), false, []⟩,
   ⟨(some 13), .faddr 1 (.t 3), (some (10, true)), false, []⟩,
   ⟨(some 14), .load true 4 (.t 13), (some (10, true)), false, []⟩,
   ⟨(some 15), .call (.c (.func 22 [] [])) [(.t 12), (.t 14)], (some (10, true)), false, []⟩,
   ⟨(some 16), .pick (.t 10) (.t 15) (.c (.bool false)), none, false, []⟩,
   ⟨(some 4), .mv (.t 16), none, false, []⟩] none)
 .ret)) }
/- warpref15.SameSchemes -/
def f20 : AFunc :=
 { np := 2, ntmps := 27, results := [.tmp 4], frz := false, body :=
 (.seq (.ops [⟨(some 4), .mv (.c (.bool false)), none, false, []⟩] none)
 (.seq (.seq (.ops [⟨(some 6), .mv (.t 0), none, false, []⟩,
   ⟨(some 7), .len 1 (.t 6), none, false, []⟩,
   ⟨(some 8), .mv (.t 1), none, false, []⟩,
   ⟨(some 9), .len 1 (.t 8), none, false, []⟩,
   ⟨(some 10), .bin .sc .neq (.t 7) (.t 9), none, false, []⟩] none)
 (.cond (.t 10) (.seq (.ops [⟨(some 4), .mv (.c (.bool false)), none, false, []⟩] none)
 .ret) .skip))
 (.seq (.seq (.ops [⟨(some 5), .mv (.c (.int .i64 0)), none, false, []⟩] none)
 (.block 0 (.loop (.seq (.seq (.ops [⟨(some 11), .mv (.t 5), none, false, []⟩,
   ⟨(some 12), .mv (.t 0), none, false, []⟩,
   ⟨(some 13), .len 1 (.t 12), none, false, []⟩,
   ⟨(some 14), .bin .sc .lss (.t 11) (.t 13), none, false, []⟩] none)
 (.cond (.t 14) .skip (.exit 0)))
 (.seq (.block 1 (.seq (.ops [⟨(some 17), .mv (.t 0), none, false, []⟩,
   ⟨(some 18), .mv (.t 5), none, false, []⟩,
   ⟨(some 19), .iaddr none 5 (.t 17) (.t 18), none, false, []⟩,
   ⟨(some 20), .load true 5 (.t 19), none, false, []⟩,
   ⟨(some 21), .mv (.t 1), none, false, []⟩,
   ⟨(some 22), .mv (.t 5), none, false, []⟩,
   ⟨(some 23), .iaddr none 5 (.t 21) (.t 22), none, false, []⟩,
   ⟨(some 24), .load true 5 (.t 23), none, false, []⟩,
   ⟨(some 25), .call (.c (.func 19 [] [])) [(.t 20), (.t 24)], none, false, []⟩,
   ⟨(some 26), .not (.t 25), none, false, []⟩] (some [[], [], [0, 1], [0, 1, 2], [], [], [4, 5], [4, 5, 6], [0, 1, 2, 3, 4, 5, 6, 7], [0, 1, 2, 3, 4, 5, 6, 7, 8]]))
 (.cond (.t 26) (.seq (.ops [⟨(some 4), .mv (.c (.bool false)), none, false, []⟩] none)
 .ret) .skip)))
 (.ops [⟨(some 15), .mv (.t 5), none, false, []⟩,
   ⟨(some 16), .bin .sc .add (.t 15) (.c (.int .i64 1)), none, false, []⟩,
   ⟨(some 5), .mv (.t 16), none, false, []⟩] none))))))
 (.seq (.ops [⟨(some 4), .mv (.c (.bool true)), none, false, []⟩] none)
 .ret)))) }
/- warpref15.Size -/
def f21 : AFunc :=
 { np := 1, ntmps := 26, results := [.tmp 2], frz := false, body :=
 (.seq (.ops [⟨(some 1), .box true (.t 0), none, false, []⟩,
   ⟨(some 2), .mv (.c (.int .i64 0)), none, false, []⟩] none)
 (.seq (.ops [⟨(some 3), .mv (.c (.int .i64 1)), none, false, []⟩] none)
 (.seq (.seq (.ops [⟨(some 4), .mv (.c (.int .i64 0)), none, false, []⟩] none)
 (.block 0 (.loop (.seq (.seq (.ops [⟨(some 5), .mv (.t 4), none, false, []⟩,
   ⟨(some 6), .faddr 3 (.t 1), none, false, []⟩,
   ⟨(some 7), .load false 1 (.t 6), none, false, []⟩,
   ⟨(some 8), .len 1 (.t 7), none, false, []⟩,
   ⟨(some 9), .bin .sc .lss (.t 5) (.t 8), none, false, []⟩,
   ⟨(some 10), .mv (.t 9), none, false, []⟩,
   ⟨(some 11), .mv (.t 3), (some (10, true)), false, []⟩,
   ⟨(some 12), .bin .sc .leq (.t 11) (.c (.int .i64 400)), (some (10, true)), false, []⟩,
   ⟨(some 13), .pick (.t 10) (.t 12) (.c (.bool false)), none, false, []⟩] none)
 (.cond (.t 13) .skip (.exit 0)))
 (.seq (.block 1 (.ops [⟨(some 16), .mv (.t 3), none, false, []⟩,
   ⟨(some 17), .faddr 3 (.t 1), none, false, []⟩,
   ⟨(some 18), .load false 1 (.t 17), none, false, []⟩,
   ⟨(some 19), .mv (.t 4), none, false, []⟩,
   ⟨(some 20), .iaddr none 4 (.t 18) (.t 19), none, false, []⟩,
   ⟨(some 21), .load true 4 (.t 20), none, false, []⟩,
   ⟨(some 22), .call (.c (.func 21 [] [])) [(.t 21)], none, false, []⟩,
   ⟨(some 23), .bin .sc .add (.t 16) (.t 22), none, false, []⟩,
   ⟨(some 3), .mv (.t 23), none, false, []⟩] none))
 (.ops [⟨(some 14), .mv (.t 4), none, false, []⟩,
   ⟨(some 15), .bin .sc .add (.t 14) (.c (.int .i64 1)), none, false, []⟩,
   ⟨(some 4), .mv (.t 15), none, false, []⟩] none))))))
 (.seq (.ops [⟨(some 24), .mv (.t 3), none, false, []⟩,
   ⟨(some 25), .min [(.t 24), (.c (.int .i64 401))], none, false, []⟩,
   ⟨(some 2), .mv (.t 25), none, false, []⟩] none)
 .ret)))) }
/- warpref9.SameType -/
def f22 : AFunc :=
 { np := 2, ntmps := 31, results := [.tmp 4], frz := false, body :=
 (.seq (.ops [⟨(some 2), .box true (.t 0), none, false, []⟩,
   ⟨(some 3), .box true (.t 1), none, false, []⟩,
   ⟨(some 4), .mv (.c (.bool false)), none, false, []⟩] none)
 (.seq (.ops [⟨(some 5), .faddr 0 (.t 2), none, false, []⟩,
   ⟨(some 6), .load false 1 (.t 5), none, false, []⟩,
   ⟨(some 7), .faddr 0 (.t 3), none, false, []⟩,
   ⟨(some 8), .load false 1 (.t 7), none, false, []⟩,
   ⟨(some 9), .bin .sc .eql (.t 6) (.t 8), none, false, []⟩,
   ⟨(some 10), .mv (.t 9), none, false, []⟩,
   ⟨(some 11), .faddr 1 (.t 2), (some (10, true)), false, []⟩,
   ⟨(some 12), .load false 1 (.t 11), (some (10, true)), false, []⟩,
   ⟨(some 13), .faddr 1 (.t 3), (some (10, true)), false, []⟩,
   ⟨(some 14), .load false 1 (.t 13), (some (10, true)), false, []⟩,
   ⟨(some 15), .bin .sc .eql (.t 12) (.t 14), (some (10, true)), false, []⟩,
   ⟨(some 16), .pick (.t 10) (.t 15) (.c (.bool false)), none, false, []⟩,
   ⟨(some 17), .mv (.t 16), none, false, []⟩,
   ⟨(some 18), .faddr 2 (.t 2), (some (17, true)), false, []⟩,
   ⟨(some 19), .load false 1 (.t 18), (some (17, true)), false, []⟩,
   ⟨(some 20), .faddr 2 (.t 3), (some (17, true)), false, []⟩,
   ⟨(some 21), .load false 1 (.t 20), (some (17, true)), false, []⟩,
   ⟨(some 22), .bin .sc .eql (.t 19) (.t 21), (some (17, true)), false, []⟩,
   ⟨(some 23), .pick (.t 17) (.t 22) (.c (.bool false)), none, false, []⟩,
   ⟨(some 24), .mv (.t 23), none, false, []⟩,
   ⟨(some 25), .faddr 3 (.t 2), (some (24, true)), false, []⟩,
   ⟨(some 26), .load false 1 (.t 25), (some (24, true)), false, []⟩,
   ⟨(some 27), .faddr 3 (.t 3), (some (24, true)), false, []⟩,
   ⟨(some 28), .load false 1 (.t 27), (some (24, true)), false, []⟩,
   ⟨(some 29), .call (.c (.func 36 [] [])) [(.t 26), (.t 28)], (some (24, true)), false, []⟩,
   ⟨(some 30), .pick (.t 24) (.t 29) (.c (.bool false)), none, false, []⟩,
   ⟨(some 4), .mv (.t 30), none, false, []⟩] none)
 .ret)) }
/- warpref15.Canon -/
def f23 : AFunc :=
 { np := 1, ntmps := 7, results := [.cell 2 4 true], frz := false, body :=
 (.seq (.ops [⟨(some 1), .box true (.t 0), none, false, []⟩,
   ⟨(some 2), .alloc true [.int .i64 0, .int .i64 0, .str [], .pl [] 0 .nil], none, false, []⟩] none)
 (.seq (.ops [⟨(some 3), .load true 4 (.t 1), none, true, []⟩,
   ⟨(some 4), .load true 4 (.t 1), none, false, []⟩,
   ⟨(some 5), .call (.c (.func 25 [] [])) [(.t 4)], none, false, []⟩,
   ⟨(some 6), .call (.c (.func 37 [] [])) [(.t 3), (.t 5)], none, false, []⟩,
   ⟨none, .store 4 (.t 2) (.t 6), none, false, []⟩] (some [[], [], [1], [0, 1, 2], [0, 1, 2, 3]]))
 .ret)) }
/- warplaw21.Well -/
def f24 : AFunc :=
 { np := 2, ntmps := 147, results := [.tmp 4], frz := false, body :=
 (.seq (.ops [⟨(some 4), .mv (.c (.str [])), none, false, []⟩] none)
 (.seq (.seq (.ops [⟨(some 10), .mv (.t 0), none, false, []⟩,
   ⟨(some 11), .len 1 (.t 10), none, false, []⟩,
   ⟨(some 12), .bin .sc .eql (.t 11) (.c (.int .i64 0)), none, false, []⟩] none)
 (.cond (.t 12) (.seq (.ops [⟨(some 4), .mv (.c (.str [49])), none, false, []⟩] none)
 .ret) .skip))
 (.seq (.ops [⟨(some 13), .mv (.t 0), none, false, []⟩,
   ⟨(some 14), .iaddr none 1 (.t 13) (.c (.int .i64 0)), none, false, []⟩,
   ⟨(some 15), .load false 1 (.t 14), none, false, []⟩,
   ⟨(some 16), .cint .i64 (.t 15), none, false, []⟩,
   ⟨(some 5), .mv (.t 16), none, false, []⟩] none)
 (.seq (.ops [⟨(some 17), .mv (.t 0), none, false, []⟩,
   ⟨(some 18), .sliceL 1 (.t 17) (some (.c (.int .i64 1))) none none, none, false, []⟩,
   ⟨(some 6), .mv (.t 18), none, false, []⟩] none)
 (.seq (.ops [⟨(some 19), .mv (.t 6), none, false, []⟩,
   ⟨(some 20), .mv (.t 6), none, false, []⟩,
   ⟨(some 21), .len 1 (.t 20), none, false, []⟩,
   ⟨(some 22), .bin .sc .quo (.t 21) (.c (.int .i64 2)), none, false, []⟩,
   ⟨(some 23), .sliceL 1 (.t 19) (some (.t 22)) none none, none, false, []⟩,
   ⟨(some 7), .mv (.t 23), none, false, []⟩] none)
 (.seq (.seq (.ops [⟨(some 24), .mv (.t 5), none, false, []⟩,
   ⟨(some 25), .bin .sc .rem (.t 24) (.c (.int .i64 9)), none, false, []⟩] none)
 (.block 0 (.seq (.ops [⟨(some 27), .bin .sc .eql (.t 25) (.c (.int .i64 0)), none, false, []⟩,
   ⟨(some 26), .mv (.t 27), none, false, []⟩] none)
 (.cond (.t 26) (.seq (.ops [⟨(some 28), .mv (.t 5), none, false, []⟩,
   ⟨(some 29), .call (.c (.func 35 [] [])) [(.t 28)], none, false, []⟩,
   ⟨(some 4), .mv (.t 29), none, false, []⟩] none)
 .ret) (.seq (.ops [⟨(some 31), .bin .sc .eql (.t 25) (.c (.int .i64 1)), none, false, []⟩,
   ⟨(some 30), .mv (.t 31), none, false, []⟩] none)
 (.cond (.t 30) (.seq (.seq (.ops [⟨(some 32), .mv (.t 1), none, false, []⟩,
   ⟨(some 33), .len 1 (.t 32), none, false, []⟩,
   ⟨(some 34), .bin .sc .gtr (.t 33) (.c (.int .i64 0)), none, false, []⟩] none)
 (.cond (.t 34) (.seq (.ops [⟨(some 35), .mv (.t 1), none, false, []⟩,
   ⟨(some 36), .mv (.t 5), none, false, []⟩,
   ⟨(some 37), .bin .sc .quo (.t 36) (.c (.int .i64 9)), none, false, []⟩,
   ⟨(some 38), .mv (.t 1), none, false, []⟩,
   ⟨(some 39), .len 1 (.t 38), none, false, []⟩,
   ⟨(some 40), .bin .sc .rem (.t 37) (.t 39), none, false, []⟩,
   ⟨(some 41), .iaddr none 1 (.t 35) (.t 40), none, false, []⟩,
   ⟨(some 42), .load false 1 (.t 41), none, false, []⟩,
   ⟨(some 4), .mv (.t 42), none, false, []⟩] none)
 .ret) .skip))
 (.seq (.ops [⟨(some 4), .mv (.c (.str [116, 114, 117, 101])), none, false, []⟩] none)
 .ret)) (.seq (.ops [⟨(some 44), .bin .sc .eql (.t 25) (.c (.int .i64 2)), none, false, []⟩,
   ⟨(some 43), .mv (.t 44), none, false, []⟩] none)
 (.cond (.t 43) (.seq (.ops [⟨(some 45), .mv (.t 1), none, false, []⟩,
   ⟨(some 46), .len 1 (.t 45), none, false, []⟩,
   ⟨(some 47), .call (.c (.func 35 [] [])) [(.t 46)], none, false, []⟩,
   ⟨(some 48), .bin .sc .add (.c (.str [40, 92, 118])) (.t 47), none, false, []⟩,
   ⟨(some 49), .bin .sc .add (.t 48) (.c (.str [32, 45, 62, 32])), none, false, []⟩,
   ⟨(some 50), .mv (.t 6), none, false, []⟩,
   ⟨(some 51), .bslice false 0 [] [], none, false, []⟩,
   ⟨(some 52), .mv (.t 1), none, false, []⟩,
   ⟨(some 53), .app false 1 16 (.t 51) (.t 52), none, false, []⟩,
   ⟨(some 54), .mv (.t 1), none, false, []⟩,
   ⟨(some 55), .len 1 (.t 54), none, false, []⟩,
   ⟨(some 56), .call (.c (.func 35 [] [])) [(.t 55)], none, false, []⟩,
   ⟨(some 57), .bin .sc .add (.c (.str [118])) (.t 56), none, false, []⟩,
   ⟨(some 58), .bslice false 1 [.str []] [(0, 1, (.t 57))], none, false, []⟩,
   ⟨(some 59), .app false 1 16 (.t 53) (.t 58), none, false, []⟩,
   ⟨(some 60), .call (.c (.func 24 [] [])) [(.t 50), (.t 59)], none, false, []⟩,
   ⟨(some 61), .bin .sc .add (.t 49) (.t 60), none, false, []⟩,
   ⟨(some 62), .bin .sc .add (.t 61) (.c (.str [41])), none, false, []⟩,
   ⟨(some 4), .mv (.t 62), none, false, []⟩] none)
 .ret) (.seq (.ops [⟨(some 64), .bin .sc .eql (.t 25) (.c (.int .i64 3)), none, false, []⟩,
   ⟨(some 63), .mv (.t 64), none, false, []⟩] none)
 (.cond (.t 63) (.seq (.ops [⟨(some 65), .mv (.t 6), none, false, []⟩,
   ⟨(some 66), .mv (.t 1), none, false, []⟩,
   ⟨(some 67), .call (.c (.func 24 [] [])) [(.t 65), (.t 66)], none, false, []⟩,
   ⟨(some 68), .bin .sc .add (.c (.str [40])) (.t 67), none, false, []⟩,
   ⟨(some 69), .bin .sc .add (.t 68) (.c (.str [44, 32])), none, false, []⟩,
   ⟨(some 70), .mv (.t 7), none, false, []⟩,
   ⟨(some 71), .mv (.t 1), none, false, []⟩,
   ⟨(some 72), .call (.c (.func 24 [] [])) [(.t 70), (.t 71)], none, false, []⟩,
   ⟨(some 73), .bin .sc .add (.t 69) (.t 72), none, false, []⟩,
   ⟨(some 74), .bin .sc .add (.t 73) (.c (.str [41])), none, false, []⟩,
   ⟨(some 4), .mv (.t 74), none, false, []⟩] none)
 .ret) (.seq (.ops [⟨(some 76), .bin .sc .eql (.t 25) (.c (.int .i64 4)), none, false, []⟩,
   ⟨(some 75), .mv (.t 76), none, false, []⟩] none)
 (.cond (.t 75) (.seq (.ops [⟨(some 77), .mv (.t 6), none, false, []⟩,
   ⟨(some 78), .mv (.t 1), none, false, []⟩,
   ⟨(some 79), .call (.c (.func 24 [] [])) [(.t 77), (.t 78)], none, false, []⟩,
   ⟨(some 80), .bin .sc .add (.c (.str [40, 105, 102, 32, 116, 114, 117, 101, 32, 116, 104, 101, 110, 32])) (.t 79), none, false, []⟩,
   ⟨(some 81), .bin .sc .add (.t 80) (.c (.str [32, 101, 108, 115, 101, 32])), none, false, []⟩,
   ⟨(some 82), .mv (.t 6), none, false, []⟩,
   ⟨(some 83), .mv (.t 1), none, false, []⟩,
   ⟨(some 84), .call (.c (.func 24 [] [])) [(.t 82), (.t 83)], none, false, []⟩,
   ⟨(some 85), .bin .sc .add (.t 81) (.t 84), none, false, []⟩,
   ⟨(some 86), .bin .sc .add (.t 85) (.c (.str [41])), none, false, []⟩,
   ⟨(some 4), .mv (.t 86), none, false, []⟩] none)
 .ret) (.seq (.ops [⟨(some 88), .bin .sc .eql (.t 25) (.c (.int .i64 5)), none, false, []⟩,
   ⟨(some 87), .mv (.t 88), none, false, []⟩] none)
 (.cond (.t 87) (.seq (.ops [⟨(some 89), .mv (.t 6), none, false, []⟩,
   ⟨(some 90), .mv (.t 1), none, false, []⟩,
   ⟨(some 91), .call (.c (.func 24 [] [])) [(.t 89), (.t 90)], none, false, []⟩,
   ⟨(some 92), .bin .sc .add (.c (.str [40, 67, 111, 110, 115, 32, 40])) (.t 91), none, false, []⟩,
   ⟨(some 93), .bin .sc .add (.t 92) (.c (.str [41, 32, 78, 105, 108, 41])), none, false, []⟩,
   ⟨(some 4), .mv (.t 93), none, false, []⟩] none)
 .ret) (.seq (.ops [⟨(some 95), .bin .sc .eql (.t 25) (.c (.int .i64 6)), none, false, []⟩,
   ⟨(some 94), .mv (.t 95), none, false, []⟩] none)
 (.cond (.t 94) (.seq (.ops [⟨(some 96), .mv (.t 1), none, false, []⟩,
   ⟨(some 97), .len 1 (.t 96), none, false, []⟩,
   ⟨(some 98), .call (.c (.func 35 [] [])) [(.t 97)], none, false, []⟩,
   ⟨(some 99), .bin .sc .add (.c (.str [118])) (.t 98), none, false, []⟩,
   ⟨(some 8), .mv (.t 99), none, false, []⟩] none)
 (.seq (.ops [⟨(some 100), .mv (.t 8), none, false, []⟩,
   ⟨(some 101), .bin .sc .add (.c (.str [40, 108, 101, 116, 32])) (.t 100), none, false, []⟩,
   ⟨(some 102), .bin .sc .add (.t 101) (.c (.str [32, 61, 32])), none, false, []⟩,
   ⟨(some 103), .mv (.t 7), none, false, []⟩,
   ⟨(some 104), .mv (.t 1), none, false, []⟩,
   ⟨(some 105), .call (.c (.func 24 [] [])) [(.t 103), (.t 104)], none, false, []⟩,
   ⟨(some 106), .bin .sc .add (.t 102) (.t 105), none, false, []⟩,
   ⟨(some 107), .bin .sc .add (.t 106) (.c (.str [32, 105, 110, 32])), none, false, []⟩,
   ⟨(some 108), .mv (.t 6), none, false, []⟩,
   ⟨(some 109), .bslice false 0 [] [], none, false, []⟩,
   ⟨(some 110), .mv (.t 1), none, false, []⟩,
   ⟨(some 111), .app false 1 16 (.t 109) (.t 110), none, false, []⟩,
   ⟨(some 112), .mv (.t 8), none, false, []⟩,
   ⟨(some 113), .bslice false 1 [.str []] [(0, 1, (.t 112))], none, false, []⟩,
   ⟨(some 114), .app false 1 16 (.t 111) (.t 113), none, false, []⟩,
   ⟨(some 115), .call (.c (.func 24 [] [])) [(.t 108), (.t 114)], none, false, []⟩,
   ⟨(some 116), .bin .sc .add (.t 107) (.t 115), none, false, []⟩,
   ⟨(some 117), .bin .sc .add (.t 116) (.c (.str [41])), none, false, []⟩,
   ⟨(some 4), .mv (.t 117), none, false, []⟩] none)
 .ret)) (.seq (.ops [⟨(some 119), .bin .sc .eql (.t 25) (.c (.int .i64 7)), none, false, []⟩,
   ⟨(some 118), .mv (.t 119), none, false, []⟩] none)
 (.cond (.t 118) (.seq (.ops [⟨(some 120), .mv (.t 6), none, false, []⟩,
   ⟨(some 121), .mv (.t 1), none, false, []⟩,
   ⟨(some 122), .call (.c (.func 24 [] [])) [(.t 120), (.t 121)], none, false, []⟩,
   ⟨(some 123), .bin .sc .add (.c (.str [40, 40, 92, 119, 32, 45, 62, 32, 119, 41, 32, 40])) (.t 122), none, false, []⟩,
   ⟨(some 124), .bin .sc .add (.t 123) (.c (.str [41, 41])), none, false, []⟩,
   ⟨(some 4), .mv (.t 124), none, false, []⟩] none)
 .ret) .skip))))))))))))))))))
 (.seq (.ops [⟨(some 125), .mv (.t 1), none, false, []⟩,
   ⟨(some 126), .len 1 (.t 125), none, false, []⟩,
   ⟨(some 127), .call (.c (.func 35 [] [])) [(.t 126)], none, false, []⟩,
   ⟨(some 128), .bin .sc .add (.c (.str [118])) (.t 127), none, false, []⟩,
   ⟨(some 9), .mv (.t 128), none, false, []⟩] none)
 (.seq (.ops [⟨(some 129), .mv (.t 7), none, false, []⟩,
   ⟨(some 130), .mv (.t 1), none, false, []⟩,
   ⟨(some 131), .call (.c (.func 24 [] [])) [(.t 129), (.t 130)], none, false, []⟩,
   ⟨(some 132), .bin .sc .add (.c (.str [40, 99, 97, 115, 101, 32, 83, 111, 109, 101, 32, 40])) (.t 131), none, false, []⟩,
   ⟨(some 133), .bin .sc .add (.t 132) (.c (.str [41, 32, 111, 102, 32, 123, 83, 111, 109, 101, 32])), none, false, []⟩,
   ⟨(some 134), .mv (.t 9), none, false, []⟩,
   ⟨(some 135), .bin .sc .add (.t 133) (.t 134), none, false, []⟩,
   ⟨(some 136), .bin .sc .add (.t 135) (.c (.str [32, 45, 62, 32])), none, false, []⟩,
   ⟨(some 137), .mv (.t 6), none, false, []⟩,
   ⟨(some 138), .bslice false 0 [] [], none, false, []⟩,
   ⟨(some 139), .mv (.t 1), none, false, []⟩,
   ⟨(some 140), .app false 1 16 (.t 138) (.t 139), none, false, []⟩,
   ⟨(some 141), .mv (.t 9), none, false, []⟩,
   ⟨(some 142), .bslice false 1 [.str []] [(0, 1, (.t 141))], none, false, []⟩,
   ⟨(some 143), .app false 1 16 (.t 140) (.t 142), none, false, []⟩,
   ⟨(some 144), .call (.c (.func 24 [] [])) [(.t 137), (.t 143)], none, false, []⟩,
   ⟨(some 145), .bin .sc .add (.t 136) (.t 144), none, false, []⟩,
   ⟨(some 146), .bin .sc .add (.t 145) (.c (.str [125, 41])), none, false, []⟩,
   ⟨(some 4), .mv (.t 146), none, false, []⟩] none)
 .ret)))))))) }
/- warpref15.Vars -/
def f25 : AFunc :=
 { np := 1, ntmps := 5, results := [.tmp 2], frz := false, body :=
 (.seq (.ops [⟨(some 1), .box true (.t 0), none, false, []⟩,
   ⟨(some 2), .mv (.c (.pl [] 0 .nil)), none, false, []⟩] none)
 (.seq (.ops [⟨(some 3), .load true 4 (.t 1), none, false, []⟩,
   ⟨(some 4), .call (.c (.func 38 [] [])) [(.c (.pl [] 0 .nil)), (.t 3)], none, false, []⟩,
   ⟨(some 2), .mv (.t 4), none, false, []⟩] none)
 .ret)) }
/- warpref9.Parse -/
def f26 : AFunc :=
 { np := 1, ntmps := 155, results := [.cell 2 4 true], frz := true, body :=
 (.seq (.ops [⟨(some 2), .alloc true [.pl [] 0 .nil, .pl [] 0 .nil, .int .i64 0, .int .i64 0], none, false, []⟩] none)
 (.seq (.ops [⟨(some 14), .mv (.t 0), none, false, []⟩,
   ⟨(some 15), .call (.c (.func 39 [] [])) [(.t 14)], none, false, []⟩,
   ⟨(some 3), .alloc true [.pl [] 0 .nil, .int .i64 0, .int .i64 0], none, false, []⟩,
   ⟨none, .store 3 (.t 3) (.t 15), none, false, []⟩] none)
 (.seq (.seq (.ops [⟨(some 16), .faddr 1 (.t 3), none, false, []⟩,
   ⟨(some 17), .load false 1 (.t 16), none, false, []⟩,
   ⟨(some 18), .bin .sc .neq (.t 17) (.c (.int .i64 0)), none, false, []⟩] none)
 (.cond (.t 18) (.seq (.ops [⟨(some 19), .faddr 1 (.t 3), none, false, []⟩,
   ⟨(some 20), .load false 1 (.t 19), none, false, []⟩,
   ⟨(some 21), .faddr 2 (.t 3), none, false, []⟩,
   ⟨(some 22), .load false 1 (.t 21), none, false, []⟩,
   ⟨(some 23), .build [.pl [] 0 .nil, .pl [] 0 .nil, .int .i64 0, .int .i64 0] [(2, 1, (.t 20)), (3, 1, (.t 22))], none, false, []⟩,
   ⟨none, .store 4 (.t 2) (.t 23), none, false, []⟩] none)
 .ret) .skip))
 (.seq (.ops [⟨(some 24), .faddr 0 (.t 3), none, false, []⟩,
   ⟨(some 25), .load false 1 (.t 24), none, false, []⟩,
   ⟨(some 26), .mv (.t 0), none, false, []⟩,
   ⟨(some 27), .len 0 (.t 26), none, false, []⟩,
   ⟨(some 28), .build [.pl [] 0 .nil, .int .i64 0, .int .i64 0, .bool false, .int .i64 0] [(0, 1, (.t 25)), (2, 1, (.t 27))], none, false, []⟩,
   ⟨(some 29), .box false (.t 28), none, false, []⟩,
   ⟨(some 4), .mv (.t 29), none, false, []⟩] none)
 (.seq (.ops [⟨(some 5), .alloc true [.pl [] 0 .nil, .pl [] 0 .nil], none, false, []⟩] none)
 (.seq (.block 0 (.loop (.seq (.seq (.ops [⟨(some 30), .mv (.t 4), none, false, []⟩,
   ⟨(some 31), .nilck (.t 30), none, false, []⟩,
   ⟨(some 32), .faddr 1 (.t 31), none, false, []⟩,
   ⟨(some 33), .load false 1 (.t 32), none, false, []⟩,
   ⟨(some 34), .mv (.t 4), none, false, []⟩,
   ⟨(some 35), .nilck (.t 34), none, false, []⟩,
   ⟨(some 36), .faddr 0 (.t 35), none, false, []⟩,
   ⟨(some 37), .load false 1 (.t 36), none, false, []⟩,
   ⟨(some 38), .len 1 (.t 37), none, false, []⟩,
   ⟨(some 39), .bin .sc .lss (.t 33) (.t 38), none, false, []⟩,
   ⟨(some 40), .mv (.t 39), none, false, []⟩,
   ⟨(some 41), .mv (.t 4), (some (40, true)), false, []⟩,
   ⟨(some 42), .nilck (.t 41), (some (40, true)), false, []⟩,
   ⟨(some 43), .faddr 3 (.t 42), (some (40, true)), false, []⟩,
   ⟨(some 44), .load false 1 (.t 43), (some (40, true)), false, []⟩,
   ⟨(some 45), .not (.t 44), (some (40, true)), false, []⟩,
   ⟨(some 46), .pick (.t 40) (.t 45) (.c (.bool false)), none, false, []⟩] (some [[], [0], [0, 1], [0, 1, 2], [], [4], [4, 5], [4, 5, 6], [4, 5, 6, 7], [0, 1, 2, 3, 4, 5, 6, 7, 8], [0, 1, 2, 3, 4, 5, 6, 7, 8, 9], [0, 1, 2, 3, 4, 5, 6, 7, 8, 9, 10], [0, 1, 2, 3, 4, 5, 6, 7, 8, 9, 10, 11], [0, 1, 2, 3, 4, 5, 6, 7, 8, 9, 10, 11, 12], [0, 1, 2, 3, 4, 5, 6, 7, 8, 9, 10, 11, 12, 13], [0, 1, 2, 3, 4, 5, 6, 7, 8, 9, 10, 11, 12, 13, 14], [0, 1, 2, 3, 4, 5, 6, 7, 8, 9, 10, 11, 12, 13, 14, 15]]))
 (.cond (.t 46) .skip (.exit 0)))
 (.block 1 (.seq (.seq (.ops [⟨(some 47), .mv (.t 4), none, false, []⟩,
   ⟨(some 48), .call (.c (.func 40 [] [])) [(.t 47), (.c (.int .i64 4)), (.c (.str [100, 97, 116, 97]))], none, false, []⟩] none)
 (.cond (.t 48) (.seq (.ops [⟨(some 49), .mv (.t 4), none, false, []⟩,
   ⟨(some 50), .nilck (.t 49), none, false, []⟩,
   ⟨(some 51), .faddr 1 (.t 50), none, false, []⟩,
   ⟨(some 52), .load false 1 (.t 51), none, false, []⟩,
   ⟨(some 53), .bin .sc .add (.t 52) (.c (.int .i64 1)), none, false, []⟩,
   ⟨(some 54), .nilck (.t 49), none, false, []⟩,
   ⟨(some 55), .faddr 1 (.t 54), none, false, []⟩,
   ⟨none, .store 1 (.t 55) (.t 53), none, false, []⟩] none)
 (.seq (.ops [⟨(some 56), .mv (.t 4), none, false, []⟩,
   ⟨(some 57), .call (.c (.func 41 [] [])) [(.t 56), (.c (.int .i64 2)), (.c (.str []))], none, false, []⟩,
   ⟨(some 6), .alloc true [.int .i64 0, .int .i64 0, .str [], .int .i64 0], none, false, []⟩,
   ⟨none, .store 4 (.t 6) (.t 57), none, false, []⟩] none)
 (.seq (.ops [⟨(some 58), .mv (.t 4), none, false, []⟩,
   ⟨(some 59), .call (.c (.func 42 [] [])) [(.t 58)], none, false, []⟩,
   ⟨(some 7), .mv (.t 59), none, false, []⟩] none)
 (.seq (.ops [⟨(some 60), .faddr 2 (.t 6), none, false, []⟩,
   ⟨(some 61), .load false 1 (.t 60), none, false, []⟩,
   ⟨(some 62), .faddr 1 (.t 6), none, false, []⟩,
   ⟨(some 63), .load false 1 (.t 62), none, false, []⟩,
   ⟨(some 64), .build [.str [], .int .i64 0, .pl [] 0 .nil, .pl [] 0 .nil] [(0, 1, (.t 61)), (1, 1, (.t 63))], none, false, []⟩,
   ⟨(some 8), .alloc true [.str [], .int .i64 0, .pl [] 0 .nil, .pl [] 0 .nil], none, false, []⟩,
   ⟨none, .store 4 (.t 8) (.t 64), none, false, []⟩] none)
 (.seq (.seq (.ops [⟨(some 9), .mv (.c (.int .i64 0)), none, false, []⟩] none)
 (.block 2 (.loop (.seq (.seq (.ops [⟨(some 65), .mv (.t 9), none, false, []⟩,
   ⟨(some 66), .mv (.t 7), none, false, []⟩,
   ⟨(some 67), .len 1 (.t 66), none, false, []⟩,
   ⟨(some 68), .bin .sc .lss (.t 65) (.t 67), none, false, []⟩] none)
 (.cond (.t 68) .skip (.exit 2)))
 (.seq (.block 3 (.ops [⟨(some 71), .faddr 2 (.t 8), none, false, []⟩,
   ⟨(some 72), .load false 1 (.t 71), none, false, []⟩,
   ⟨(some 73), .mv (.t 7), none, false, []⟩,
   ⟨(some 74), .mv (.t 9), none, false, []⟩,
   ⟨(some 75), .iaddr none 4 (.t 73) (.t 74), none, false, []⟩,
   ⟨(some 76), .faddr 2 (.t 75), none, false, []⟩,
   ⟨(some 77), .load false 1 (.t 76), none, false, []⟩,
   ⟨(some 78), .bslice false 1 [.str []] [(0, 1, (.t 77))], none, false, []⟩,
   ⟨(some 79), .app false 1 16 (.t 72) (.t 78), none, false, []⟩,
   ⟨(some 80), .faddr 2 (.t 8), none, false, []⟩,
   ⟨none, .store 1 (.t 80) (.t 79), none, false, []⟩] (some [[], [0], [], [], [2, 3], [2, 3, 4], [2, 3, 4, 5], [2, 3, 4, 5, 6], [0, 1, 2, 3, 4, 5, 6, 7], [0, 1, 2, 3, 4, 5, 6, 7, 8], [0, 1, 2, 3, 4, 5, 6, 7, 8, 9]])))
 (.ops [⟨(some 69), .mv (.t 9), none, false, []⟩,
   ⟨(some 70), .bin .sc .add (.t 69) (.c (.int .i64 1)), none, false, []⟩,
   ⟨(some 9), .mv (.t 70), none, false, []⟩] none))))))
 (.seq (.ops [⟨(some 81), .mv (.t 4), none, false, []⟩,
   ⟨(some 82), .call (.c (.func 43 [] [])) [(.t 81), (.c (.str [61]))], none, false, []⟩] none)
 (.seq (.ops [⟨(some 83), .faddr 3 (.t 8), none, false, []⟩,
   ⟨(some 84), .load false 1 (.t 83), none, true, []⟩,
   ⟨(some 85), .mv (.t 4), none, false, []⟩,
   ⟨(some 86), .faddr 2 (.t 8), none, false, []⟩,
   ⟨(some 87), .load false 1 (.t 86), none, false, []⟩,
   ⟨(some 88), .call (.c (.func 44 [] [])) [(.t 85), (.t 87)], none, false, []⟩,
   ⟨(some 89), .bslice false 1 [.str [], .int .i64 0, .pl [] 0 .nil] [(0, 3, (.t 88))], none, false, []⟩,
   ⟨(some 90), .app false 3 48 (.t 84) (.t 89), none, false, []⟩,
   ⟨(some 91), .faddr 3 (.t 8), none, false, []⟩,
   ⟨none, .store 1 (.t 91) (.t 90), none, false, []⟩] (some [[], [0], [], [], [3], [2, 3, 4], [2, 3, 4, 5], [0, 1, 2, 3, 4, 5, 6], [0, 1, 2, 3, 4, 5, 6, 7], [0, 1, 2, 3, 4, 5, 6, 7, 8]]))
 (.seq (.block 4 (.loop (.seq (.seq (.ops [⟨(some 92), .mv (.t 4), none, false, []⟩,
   ⟨(some 93), .call (.c (.func 45 [] [])) [(.t 92), (.c (.str [124]))], none, false, []⟩] none)
 (.cond (.t 93) .skip (.exit 4)))
 (.block 5 (.ops [⟨(some 94), .faddr 3 (.t 8), none, false, []⟩,
   ⟨(some 95), .load false 1 (.t 94), none, true, []⟩,
   ⟨(some 96), .mv (.t 4), none, false, []⟩,
   ⟨(some 97), .faddr 2 (.t 8), none, false, []⟩,
   ⟨(some 98), .load false 1 (.t 97), none, false, []⟩,
   ⟨(some 99), .call (.c (.func 44 [] [])) [(.t 96), (.t 98)], none, false, []⟩,
   ⟨(some 100), .bslice false 1 [.str [], .int .i64 0, .pl [] 0 .nil] [(0, 3, (.t 99))], none, false, []⟩,
   ⟨(some 101), .app false 3 48 (.t 95) (.t 100), none, false, []⟩,
   ⟨(some 102), .faddr 3 (.t 8), none, false, []⟩,
   ⟨none, .store 1 (.t 102) (.t 101), none, false, []⟩] (some [[], [0], [], [], [3], [2, 3, 4], [2, 3, 4, 5], [0, 1, 2, 3, 4, 5, 6], [0, 1, 2, 3, 4, 5, 6, 7], [0, 1, 2, 3, 4, 5, 6, 7, 8]]))))))
 (.seq (.ops [⟨(some 103), .mv (.t 4), none, false, []⟩,
   ⟨(some 104), .call (.c (.func 43 [] [])) [(.t 103), (.c (.str [59]))], none, false, []⟩] none)
 (.seq (.ops [⟨(some 105), .faddr 0 (.t 5), none, false, []⟩,
   ⟨(some 106), .load false 1 (.t 105), none, false, []⟩,
   ⟨(some 107), .load true 4 (.t 8), none, false, []⟩,
   ⟨(some 108), .bslice false 1 [.str [], .int .i64 0, .pl [] 0 .nil, .pl [] 0 .nil] [(0, 4, (.t 107))], none, false, []⟩,
   ⟨(some 109), .app false 4 72 (.t 106) (.t 108), none, false, []⟩,
   ⟨(some 110), .faddr 0 (.t 5), none, false, []⟩,
   ⟨none, .store 1 (.t 110) (.t 109), none, false, []⟩] none)
 (.exit 1))))))))))) .skip))
 (.seq (.ops [⟨(some 111), .mv (.t 4), none, false, []⟩,
   ⟨(some 112), .call (.c (.func 41 [] [])) [(.t 111), (.c (.int .i64 4)), (.c (.str [108, 101, 116]))], none, false, []⟩] none)
 (.seq (.ops [⟨(some 113), .mv (.t 4), none, false, []⟩,
   ⟨(some 114), .call (.c (.func 41 [] [])) [(.t 113), (.c (.int .i64 1)), (.c (.str []))], none, false, []⟩,
   ⟨(some 10), .alloc true [.int .i64 0, .int .i64 0, .str [], .int .i64 0], none, false, []⟩,
   ⟨none, .store 4 (.t 10) (.t 114), none, false, []⟩] none)
 (.seq (.ops [⟨(some 115), .mv (.t 4), none, false, []⟩,
   ⟨(some 116), .call (.c (.func 42 [] [])) [(.t 115)], none, false, []⟩,
   ⟨(some 11), .mv (.t 116), none, false, []⟩] none)
 (.seq (.ops [⟨(some 117), .mv (.t 4), none, false, []⟩,
   ⟨(some 118), .call (.c (.func 43 [] [])) [(.t 117), (.c (.str [61]))], none, false, []⟩] none)
 (.seq (.ops [⟨(some 119), .mv (.t 11), none, false, []⟩,
   ⟨(some 120), .faddr 1 (.t 10), none, false, []⟩,
   ⟨(some 121), .load false 1 (.t 120), none, true, []⟩,
   ⟨(some 122), .mv (.t 4), none, false, []⟩,
   ⟨(some 123), .call (.c (.func 47 [] [])) [(.t 122)], none, false, []⟩,
   ⟨(some 124), .call (.c (.func 46 [] [])) [(.t 119), (.t 121), (.t 123)], none, false, []⟩,
   ⟨(some 12), .alloc true [.int .i64 0, .int .i64 0, .str [], .int .i64 0, .pl [] 0 .nil, .pl [] 0 .nil], none, false, []⟩,
   ⟨none, .store 6 (.t 12) (.t 124), none, false, []⟩] (some [[], [], [1], [], [3], [0, 1, 2, 3, 4], [], [0, 1, 2, 3, 4, 5, 6]]))
 (.seq (.ops [⟨(some 125), .mv (.t 4), none, false, []⟩,
   ⟨(some 126), .call (.c (.func 43 [] [])) [(.t 125), (.c (.str [59]))], none, false, []⟩] none)
 (.ops [⟨(some 127), .faddr 1 (.t 5), none, false, []⟩,
   ⟨(some 128), .load false 1 (.t 127), none, false, []⟩,
   ⟨(some 129), .faddr 2 (.t 10), none, false, []⟩,
   ⟨(some 130), .load false 1 (.t 129), none, false, []⟩,
   ⟨(some 131), .faddr 1 (.t 10), none, false, []⟩,
   ⟨(some 132), .load false 1 (.t 131), none, false, []⟩,
   ⟨(some 133), .load true 6 (.t 12), none, false, []⟩,
   ⟨(some 134), .build [.str [], .int .i64 0, .int .i64 0, .int .i64 0, .str [], .int .i64 0, .pl [] 0 .nil, .pl [] 0 .nil] [(0, 1, (.t 130)), (1, 1, (.t 132)), (2, 6, (.t 133))], none, false, []⟩,
   ⟨(some 135), .bslice false 1 [.str [], .int .i64 0, .int .i64 0, .int .i64 0, .str [], .int .i64 0, .pl [] 0 .nil, .pl [] 0 .nil] [(0, 8, (.t 134))], none, false, []⟩,
   ⟨(some 136), .app false 8 112 (.t 128) (.t 135), none, false, []⟩,
   ⟨(some 137), .faddr 1 (.t 5), none, false, []⟩,
   ⟨none, .store 1 (.t 137) (.t 136), none, false, []⟩] none))))))))))))
 (.seq (.seq (.ops [⟨(some 138), .mv (.t 4), none, false, []⟩,
   ⟨(some 139), .nilck (.t 138), none, false, []⟩,
   ⟨(some 140), .faddr 3 (.t 139), none, false, []⟩,
   ⟨(some 141), .load false 1 (.t 140), none, false, []⟩] none)
 (.cond (.t 141) (.seq (.ops [⟨(some 142), .mv (.t 4), none, false, []⟩,
   ⟨(some 143), .nilck (.t 142), none, false, []⟩,
   ⟨(some 144), .faddr 4 (.t 143), none, false, []⟩,
   ⟨(some 145), .load false 1 (.t 144), none, false, []⟩,
   ⟨(some 146), .build [.pl [] 0 .nil, .pl [] 0 .nil, .int .i64 0, .int .i64 0] [(2, 1, (.c (.int .i64 4))), (3, 1, (.t 145))], none, false, []⟩,
   ⟨none, .store 4 (.t 2) (.t 146), none, false, []⟩] none)
 .ret) .skip))
 (.seq (.seq (.ops [⟨(some 147), .load true 2 (.t 5), none, false, []⟩,
   ⟨(some 148), .call (.c (.func 48 [] [])) [(.t 147)], none, false, []⟩,
   ⟨(some 13), .mv (.t 148), none, false, []⟩] none)
 (.seq (.ops [⟨(some 149), .mv (.t 13), none, false, []⟩,
   ⟨(some 150), .bin .sc .geq (.t 149) (.c (.int .i64 0)), none, false, []⟩] none)
 (.cond (.t 150) (.seq (.ops [⟨(some 151), .mv (.t 13), none, false, []⟩,
   ⟨(some 152), .build [.pl [] 0 .nil, .pl [] 0 .nil, .int .i64 0, .int .i64 0] [(2, 1, (.c (.int .i64 5))), (3, 1, (.t 151))], none, false, []⟩,
   ⟨none, .store 4 (.t 2) (.t 152), none, false, []⟩] none)
 .ret) .skip)))
 (.seq (.ops [⟨(some 153), .load true 2 (.t 5), none, false, []⟩,
   ⟨(some 154), .build [.pl [] 0 .nil, .pl [] 0 .nil, .int .i64 0, .int .i64 0] [(0, 2, (.t 153))], none, false, []⟩,
   ⟨none, .store 4 (.t 2) (.t 154), none, false, []⟩] none)
 .ret))))))))) }
/- warplaw13.Heads -/
def f27 : AFunc :=
 { np := 0, ntmps := 1, results := [.tmp 0], frz := false, body :=
 (.seq (.ops [⟨(some 0), .mv (.c (.str [])), none, false, []⟩] none)
 (.seq (.ops [⟨(some 0), .mv (.c (.str [100, 97, 116, 97, 32, 76, 105, 115, 116, 32, 97, 32, 61, 32, 78, 105, 108, 32, 124, 32, 67, 111, 110, 115, 32, 97, 32, 40, 76, 105, 115, 116, 32, 97, 41, 59, 10, 100, 97, 116, 97, 32, 79, 112, 116, 32, 97, 32, 61, 32, 78, 111, 110, 101, 32, 124, 32, 83, 111, 109, 101, 32, 97, 59, 10, 100, 97, 116, 97, 32, 70, 32, 97, 32, 98, 32, 61, 32, 79, 100, 100, 32, 40, 97, 32, 45, 62, 32, 98, 41, 32, 40, 97, 44, 32, 73, 110, 116, 41, 59, 10])), none, false, []⟩] none)
 .ret)) }
/- (*infer.solver).variables -/
def f28 : AFunc :=
 { np := 2, ntmps := 21, results := [.tmp 4], frz := true, body :=
 (.seq (.ops [⟨(some 4), .mv (.c (.pl [] 0 .nil)), none, false, []⟩] none)
 (.seq (.ops [⟨(some 7), .mv (.t 1), none, false, []⟩,
   ⟨(some 8), .mkslice 1 8 [.int .i64 0] (.t 7) (.t 7), none, false, []⟩,
   ⟨(some 5), .mv (.t 8), none, false, []⟩] none)
 (.seq (.seq (.ops [⟨(some 9), .mv (.t 5), none, false, []⟩,
   ⟨(some 10), .len 1 (.t 9), none, false, []⟩,
   ⟨(some 11), .mv (.c (.int .i64 0)), none, false, []⟩] none)
 (.block 0 (.loop (.seq (.ops [⟨(some 12), .bin .sc .lss (.t 11) (.t 10), none, false, []⟩] none)
 (.seq (.cond (.t 12) .skip (.exit 0))
 (.seq (.block 1 (.seq (.ops [⟨(some 13), .mv (.t 11), none, false, []⟩,
   ⟨(some 6), .mv (.t 13), none, false, []⟩] none)
 (.ops [⟨(some 14), .mv (.t 5), none, false, []⟩,
   ⟨(some 15), .mv (.t 6), none, false, []⟩,
   ⟨(some 16), .mv (.t 0), none, false, []⟩,
   ⟨(some 17), .call (.c (.func 49 [] [])) [(.t 16)], none, false, []⟩,
   ⟨(some 18), .iaddr none 1 (.t 14) (.t 15), none, false, []⟩,
   ⟨none, .store 1 (.t 18) (.t 17), none, false, []⟩] none)))
 (.ops [⟨(some 19), .bin .sc .add (.t 11) (.c (.int .i64 1)), none, false, []⟩,
   ⟨(some 11), .mv (.t 19), none, false, []⟩] none)))))))
 (.seq (.ops [⟨(some 20), .mv (.t 5), none, false, []⟩,
   ⟨(some 4), .mv (.t 20), none, false, []⟩] none)
 .ret)))) }
/- (*infer.group).push -/
def f29 : AFunc :=
 { np := 3, ntmps := 22, results := [], frz := false, body :=
 (.seq (.ops [⟨(some 5), .box true (.t 2), none, false, []⟩] none)
 (.ops [⟨(some 6), .mv (.t 0), none, false, []⟩,
   ⟨(some 7), .nilck (.t 6), none, false, []⟩,
   ⟨(some 8), .faddr 5 (.t 7), none, false, []⟩,
   ⟨(some 9), .loadS false 1 (.t 8), none, false, []⟩,
   ⟨(some 10), .mv (.t 1), none, false, []⟩,
   ⟨(some 11), .build [.str []] [(0, 1, (.t 10))], none, false, []⟩,
   ⟨(some 12), .mv (.t 0), none, false, []⟩,
   ⟨(some 13), .nilck (.t 12), none, false, []⟩,
   ⟨(some 14), .faddr 5 (.t 13), none, false, []⟩,
   ⟨(some 15), .load false 1 (.t 14), none, false, []⟩,
   ⟨(some 16), .mv (.t 1), none, false, []⟩,
   ⟨(some 17), .build [.str []] [(0, 1, (.t 16))], none, false, []⟩,
   ⟨(some 18), .lookup (.flat [.s]) (.pl [] 0 .nil) false (.t 15) (.t 17), none, false, []⟩,
   ⟨(some 19), .load true 2 (.t 5), none, false, []⟩,
   ⟨(some 20), .bslice false 1 [.int .i64 0, .bool false] [(0, 2, (.t 19))], none, false, []⟩,
   ⟨(some 21), .appS true 2 16 (.t 18) (.t 20), none, false, []⟩,
   ⟨none, .mupd (.flat [.s]) (.t 9) (.t 11) (.t 21), none, false, []⟩] (some [[], [0], [0, 1], [0, 1, 2], [], [4], [], [6], [6, 7], [6, 7, 8], [], [10], [6, 7, 8, 9, 10, 11], [], [13], [6, 7, 8, 9, 10, 11, 12, 13, 14], [0, 1, 2, 3, 4, 5, 6, 7, 8, 9, 10, 11, 12, 13, 14, 15]]))) }
/- (*infer.group).same -/
def f30 : AFunc :=
 { np := 3, ntmps := 22, results := [], frz := false, body :=
 (.ops [⟨(some 6), .mv (.t 0), none, false, []⟩,
   ⟨(some 7), .mv (.t 0), none, false, []⟩,
   ⟨(some 8), .nilck (.t 7), none, false, []⟩,
   ⟨(some 9), .faddr 6 (.t 8), none, false, []⟩,
   ⟨(some 10), .load false 1 (.t 9), none, false, []⟩,
   ⟨(some 11), .mv (.t 10), none, false, []⟩,
   ⟨(some 12), .mv (.t 0), (some (11, false)), false, []⟩,
   ⟨(some 13), .nilck (.t 12), (some (11, false)), false, []⟩,
   ⟨(some 14), .faddr 0 (.t 13), (some (11, false)), false, []⟩,
   ⟨(some 15), .mv (.t 1), (some (11, false)), false, []⟩,
   ⟨(some 16), .mv (.t 2), (some (11, false)), false, []⟩,
   ⟨(some 17), .call (.c (.func 50 [] [])) [(.t 14), (.t 15), (.t 16)], (some (11, false)), false, []⟩,
   ⟨(some 18), .not (.t 17), (some (11, false)), false, []⟩,
   ⟨(some 19), .pick (.t 11) (.c (.bool true)) (.t 18), none, false, []⟩,
   ⟨(some 20), .nilck (.t 6), none, false, []⟩,
   ⟨(some 21), .faddr 6 (.t 20), none, false, []⟩,
   ⟨none, .store 1 (.t 21) (.t 19), none, false, []⟩] none) }
/- (*infer.group).of -/
def f31 : AFunc :=
 { np := 2, ntmps := 198, results := [.tmp 4], frz := false, body :=
 (.seq (.ops [⟨(some 3), .box true (.t 1), none, false, []⟩,
   ⟨(some 4), .mv (.c (.int .i64 0)), none, false, []⟩] none)
 (.seq (.seq (.ops [⟨(some 17), .mv (.t 0), none, false, []⟩,
   ⟨(some 18), .nilck (.t 17), none, false, []⟩,
   ⟨(some 19), .faddr 6 (.t 18), none, false, []⟩,
   ⟨(some 20), .load false 1 (.t 19), none, false, []⟩] none)
 (.cond (.t 20) (.seq (.ops [⟨(some 21), .mv (.t 0), none, false, []⟩,
   ⟨(some 22), .nilck (.t 21), none, false, []⟩,
   ⟨(some 23), .faddr 0 (.t 22), none, false, []⟩,
   ⟨(some 24), .call (.c (.func 49 [] [])) [(.t 23)], none, false, []⟩,
   ⟨(some 4), .mv (.t 24), none, false, []⟩] none)
 .ret) .skip))
 (.seq (.seq (.ops [⟨(some 25), .faddr 0 (.t 3), none, false, []⟩,
   ⟨(some 26), .load false 1 (.t 25), none, false, []⟩] none)
 (.block 0 (.seq (.ops [⟨(some 28), .bin .sc .eql (.t 26) (.c (.int .i64 1)), none, false, []⟩,
   ⟨(some 27), .mv (.t 28), none, false, []⟩] none)
 (.cond (.t 27) (.seq (.ops [⟨(some 29), .mv (.t 0), none, false, []⟩,
   ⟨(some 30), .faddr 2 (.t 3), none, false, []⟩,
   ⟨(some 31), .load false 1 (.t 30), none, false, []⟩,
   ⟨(some 32), .call (.c (.func 51 [] [])) [(.t 29), (.t 31)], none, false, []⟩,
   ⟨(some 4), .mv (.t 32), none, false, []⟩] none)
 .ret) (.seq (.ops [⟨(some 34), .bin .sc .eql (.t 26) (.c (.int .i64 2)), none, false, []⟩,
   ⟨(some 33), .mv (.t 34), none, false, []⟩] none)
 (.cond (.t 33) (.seq (.ops [⟨(some 36), .mv (.t 0), none, false, []⟩,
   ⟨(some 37), .faddr 2 (.t 3), none, false, []⟩,
   ⟨(some 38), .load false 1 (.t 37), none, false, []⟩,
   ⟨(some 39), .call (.c (.func 52 [] [])) [(.t 36), (.t 38)], none, false, []⟩,
   ⟨(some 35), .mv (.t 39), none, false, []⟩,
   ⟨(some 40), .extract 0 (.t 35), none, false, []⟩,
   ⟨(some 41), .extract 1 (.t 35), none, false, []⟩,
   ⟨(some 5), .mv (.t 40), none, false, []⟩,
   ⟨(some 6), .mv (.t 41), none, false, []⟩] none)
 (.seq (.seq (.ops [⟨(some 42), .mv (.t 5), none, false, []⟩,
   ⟨(some 43), .len 1 (.t 42), none, false, []⟩,
   ⟨(some 44), .bin .sc .sub (.t 43) (.c (.int .i64 1)), none, false, []⟩,
   ⟨(some 7), .mv (.t 44), none, false, []⟩] none)
 (.block 1 (.loop (.seq (.seq (.ops [⟨(some 45), .mv (.t 7), none, false, []⟩,
   ⟨(some 46), .bin .sc .geq (.t 45) (.c (.int .i64 0)), none, false, []⟩] none)
 (.cond (.t 46) .skip (.exit 1)))
 (.seq (.block 2 (.ops [⟨(some 49), .mv (.t 0), none, false, []⟩,
   ⟨(some 50), .nilck (.t 49), none, false, []⟩,
   ⟨(some 51), .faddr 0 (.t 50), none, false, []⟩,
   ⟨(some 52), .mv (.t 5), none, false, []⟩,
   ⟨(some 53), .mv (.t 7), none, false, []⟩,
   ⟨(some 54), .iaddr none 1 (.t 52) (.t 53), none, false, []⟩,
   ⟨(some 55), .load false 1 (.t 54), none, false, []⟩,
   ⟨(some 56), .mv (.t 6), none, false, []⟩,
   ⟨(some 57), .bslice false 2 [.int .i64 0, .int .i64 0] [(0, 1, (.t 55)), (1, 1, (.t 56))], none, false, []⟩,
   ⟨(some 58), .call (.c (.func 53 [] [])) [(.t 51), (.c (.str [45, 62])), (.t 57)], none, false, []⟩,
   ⟨(some 6), .mv (.t 58), none, false, []⟩] (some [[], [0], [0, 1], [], [], [3, 4], [3, 4, 5], [], [3, 4, 5, 6, 7], [0, 1, 2, 3, 4, 5, 6, 7, 8], [0, 1, 2, 3, 4, 5, 6, 7, 8, 9]])))
 (.ops [⟨(some 47), .mv (.t 7), none, false, []⟩,
   ⟨(some 48), .bin .sc .sub (.t 47) (.c (.int .i64 1)), none, false, []⟩,
   ⟨(some 7), .mv (.t 48), none, false, []⟩] none))))))
 (.seq (.ops [⟨(some 59), .mv (.t 6), none, false, []⟩,
   ⟨(some 4), .mv (.t 59), none, false, []⟩] none)
 .ret))) (.seq (.ops [⟨(some 61), .bin .sc .eql (.t 26) (.c (.int .i64 3)), none, false, []⟩,
   ⟨(some 60), .mv (.t 61), none, false, []⟩] none)
 (.cond (.t 60) (.seq (.ops [⟨(some 62), .mv (.t 0), none, false, []⟩,
   ⟨(some 63), .nilck (.t 62), none, false, []⟩,
   ⟨(some 64), .faddr 0 (.t 63), none, false, []⟩,
   ⟨(some 65), .call (.c (.func 53 [] [])) [(.t 64), (.c (.str [73, 110, 116])), (.c (.pl [] 0 .nil))], none, false, []⟩,
   ⟨(some 4), .mv (.t 65), none, false, []⟩] none)
 .ret) (.seq (.ops [⟨(some 67), .bin .sc .eql (.t 26) (.c (.int .i64 4)), none, false, []⟩,
   ⟨(some 66), .mv (.t 67), none, false, []⟩] none)
 (.cond (.t 66) (.seq (.ops [⟨(some 68), .mv (.t 0), none, false, []⟩,
   ⟨(some 69), .nilck (.t 68), none, false, []⟩,
   ⟨(some 70), .faddr 0 (.t 69), none, false, []⟩,
   ⟨(some 71), .call (.c (.func 53 [] [])) [(.t 70), (.c (.str [66, 111, 111, 108])), (.c (.pl [] 0 .nil))], none, false, []⟩,
   ⟨(some 4), .mv (.t 71), none, false, []⟩] none)
 .ret) (.seq (.ops [⟨(some 73), .bin .sc .eql (.t 26) (.c (.int .i64 5)), none, false, []⟩,
   ⟨(some 72), .mv (.t 73), none, false, []⟩] none)
 (.cond (.t 72) (.seq (.ops [⟨(some 74), .mv (.t 0), none, false, []⟩,
   ⟨(some 75), .load true 6 (.t 3), none, false, []⟩,
   ⟨(some 76), .call (.c (.func 54 [] [])) [(.t 74), (.t 75)], none, false, []⟩,
   ⟨(some 8), .mv (.t 76), none, false, []⟩] none)
 (.seq (.ops [⟨(some 77), .mv (.t 0), none, false, []⟩,
   ⟨(some 78), .nilck (.t 77), none, false, []⟩,
   ⟨(some 79), .faddr 0 (.t 78), none, false, []⟩,
   ⟨(some 80), .call (.c (.func 49 [] [])) [(.t 79)], none, false, []⟩,
   ⟨(some 9), .mv (.t 80), none, false, []⟩] none)
 (.seq (.ops [⟨(some 81), .mv (.t 0), none, false, []⟩,
   ⟨(some 82), .mv (.t 8), none, false, []⟩,
   ⟨(some 83), .iaddr none 1 (.t 82) (.c (.int .i64 0)), none, false, []⟩,
   ⟨(some 84), .load false 1 (.t 83), none, true, []⟩,
   ⟨(some 85), .mv (.t 0), none, false, []⟩,
   ⟨(some 86), .nilck (.t 85), none, false, []⟩,
   ⟨(some 87), .faddr 0 (.t 86), none, false, []⟩,
   ⟨(some 88), .mv (.t 8), none, false, []⟩,
   ⟨(some 89), .iaddr none 1 (.t 88) (.c (.int .i64 1)), none, false, []⟩,
   ⟨(some 90), .load false 1 (.t 89), none, false, []⟩,
   ⟨(some 91), .mv (.t 9), none, false, []⟩,
   ⟨(some 92), .bslice false 2 [.int .i64 0, .int .i64 0] [(0, 1, (.t 90)), (1, 1, (.t 91))], none, false, []⟩,
   ⟨(some 93), .call (.c (.func 53 [] [])) [(.t 87), (.c (.str [45, 62])), (.t 92)], none, false, []⟩,
   ⟨(some 94), .call (.c (.func 30 [] [])) [(.t 81), (.t 84), (.t 93)], none, false, []⟩] (some [[], [], [1], [1, 2], [], [4], [4, 5], [], [7], [7, 8], [], [7, 8, 9, 10], [4, 5, 6, 7, 8, 9, 10, 11], [0, 1, 2, 3, 4, 5, 6, 7, 8, 9, 10, 11, 12]]))
 (.seq (.ops [⟨(some 95), .mv (.t 9), none, false, []⟩,
   ⟨(some 4), .mv (.t 95), none, false, []⟩] none)
 .ret)))) (.seq (.ops [⟨(some 97), .bin .sc .eql (.t 26) (.c (.int .i64 6)), none, false, []⟩,
   ⟨(some 96), .mv (.t 97), none, false, []⟩] none)
 (.cond (.t 96) (.seq (.ops [⟨(some 98), .mv (.t 0), none, false, []⟩,
   ⟨(some 99), .nilck (.t 98), none, false, []⟩,
   ⟨(some 100), .faddr 0 (.t 99), none, false, []⟩,
   ⟨(some 101), .call (.c (.func 49 [] [])) [(.t 100)], none, false, []⟩,
   ⟨(some 10), .mv (.t 101), none, false, []⟩] none)
 (.seq (.ops [⟨(some 102), .mv (.t 0), none, false, []⟩,
   ⟨(some 103), .faddr 2 (.t 3), none, false, []⟩,
   ⟨(some 104), .load false 1 (.t 103), none, false, []⟩,
   ⟨(some 105), .mv (.t 10), none, false, []⟩,
   ⟨(some 106), .build [.int .i64 0, .bool false] [(0, 1, (.t 105))], none, false, []⟩,
   ⟨(some 107), .call (.c (.func 29 [] [])) [(.t 102), (.t 104), (.t 106)], none, false, []⟩] none)
 (.seq (.ops [⟨(some 108), .mv (.t 0), none, false, []⟩,
   ⟨(some 109), .faddr 4 (.t 3), none, false, []⟩,
   ⟨(some 110), .load false 1 (.t 109), none, false, []⟩,
   ⟨(some 111), .iaddr none 6 (.t 110) (.c (.int .i64 0)), none, false, []⟩,
   ⟨(some 112), .load true 6 (.t 111), none, false, []⟩,
   ⟨(some 113), .call (.c (.func 31 [] [])) [(.t 108), (.t 112)], none, false, []⟩,
   ⟨(some 11), .mv (.t 113), none, false, []⟩] none)
 (.seq (.ops [⟨(some 114), .mv (.t 0), none, false, []⟩,
   ⟨(some 115), .faddr 2 (.t 3), none, false, []⟩,
   ⟨(some 116), .load false 1 (.t 115), none, false, []⟩,
   ⟨(some 117), .call (.c (.func 55 [] [])) [(.t 114), (.t 116)], none, false, []⟩] none)
 (.seq (.ops [⟨(some 118), .mv (.t 0), none, false, []⟩,
   ⟨(some 119), .nilck (.t 118), none, false, []⟩,
   ⟨(some 120), .faddr 0 (.t 119), none, false, []⟩,
   ⟨(some 121), .mv (.t 10), none, false, []⟩,
   ⟨(some 122), .mv (.t 11), none, false, []⟩,
   ⟨(some 123), .bslice false 2 [.int .i64 0, .int .i64 0] [(0, 1, (.t 121)), (1, 1, (.t 122))], none, false, []⟩,
   ⟨(some 124), .call (.c (.func 53 [] [])) [(.t 120), (.c (.str [45, 62])), (.t 123)], none, false, []⟩,
   ⟨(some 4), .mv (.t 124), none, false, []⟩] none)
 .ret))))) (.seq (.ops [⟨(some 126), .bin .sc .eql (.t 26) (.c (.int .i64 7)), none, false, []⟩,
   ⟨(some 125), .mv (.t 126), none, false, []⟩] none)
 (.cond (.t 125) (.seq (.ops [⟨(some 127), .mv (.t 0), none, false, []⟩,
   ⟨(some 128), .load true 6 (.t 3), none, false, []⟩,
   ⟨(some 129), .call (.c (.func 56 [] [])) [(.t 127), (.t 128)], none, false, []⟩,
   ⟨(some 4), .mv (.t 129), none, false, []⟩] none)
 .ret) (.seq (.ops [⟨(some 131), .bin .sc .eql (.t 26) (.c (.int .i64 8)), none, false, []⟩,
   ⟨(some 130), .mv (.t 131), none, false, []⟩] none)
 (.cond (.t 130) (.seq (.ops [⟨(some 132), .mv (.t 0), none, false, []⟩,
   ⟨(some 133), .nilck (.t 132), none, false, []⟩,
   ⟨(some 134), .faddr 0 (.t 133), none, false, []⟩,
   ⟨(some 135), .mv (.t 0), none, false, []⟩,
   ⟨(some 136), .load true 6 (.t 3), none, false, []⟩,
   ⟨(some 137), .call (.c (.func 54 [] [])) [(.t 135), (.t 136)], none, false, []⟩,
   ⟨(some 138), .call (.c (.func 53 [] [])) [(.t 134), (.c (.str [44])), (.t 137)], none, false, []⟩,
   ⟨(some 4), .mv (.t 138), none, false, []⟩] (some [[], [0], [0, 1], [], [], [3, 4], [0, 1, 2, 3, 4, 5], [0, 1, 2, 3, 4, 5, 6]]))
 .ret) (.seq (.ops [⟨(some 140), .bin .sc .eql (.t 26) (.c (.int .i64 9)), none, false, []⟩,
   ⟨(some 139), .mv (.t 140), none, false, []⟩] none)
 (.cond (.t 139) (.seq (.ops [⟨(some 141), .mv (.t 0), none, false, []⟩,
   ⟨(some 142), .mv (.t 0), none, false, []⟩,
   ⟨(some 143), .faddr 4 (.t 3), none, false, []⟩,
   ⟨(some 144), .load false 1 (.t 143), none, false, []⟩,
   ⟨(some 145), .iaddr none 6 (.t 144) (.c (.int .i64 0)), none, false, []⟩,
   ⟨(some 146), .load true 6 (.t 145), none, false, []⟩,
   ⟨(some 147), .call (.c (.func 31 [] [])) [(.t 142), (.t 146)], none, false, []⟩,
   ⟨(some 148), .mv (.t 0), none, false, []⟩,
   ⟨(some 149), .nilck (.t 148), none, false, []⟩,
   ⟨(some 150), .faddr 0 (.t 149), none, false, []⟩,
   ⟨(some 151), .call (.c (.func 53 [] [])) [(.t 150), (.c (.str [66, 111, 111, 108])), (.c (.pl [] 0 .nil))], none, false, []⟩,
   ⟨(some 152), .call (.c (.func 30 [] [])) [(.t 141), (.t 147), (.t 151)], none, false, []⟩] (some [[], [], [], [2], [2, 3], [2, 3, 4], [1, 2, 3, 4, 5], [], [7], [7, 8], [1, 2, 3, 4, 5, 6, 7, 8, 9], [0, 1, 2, 3, 4, 5, 6, 7, 8, 9, 10]]))
 (.seq (.ops [⟨(some 153), .mv (.t 0), none, false, []⟩,
   ⟨(some 154), .faddr 4 (.t 3), none, false, []⟩,
   ⟨(some 155), .load false 1 (.t 154), none, false, []⟩,
   ⟨(some 156), .iaddr none 6 (.t 155) (.c (.int .i64 1)), none, false, []⟩,
   ⟨(some 157), .load true 6 (.t 156), none, false, []⟩,
   ⟨(some 158), .call (.c (.func 31 [] [])) [(.t 153), (.t 157)], none, false, []⟩,
   ⟨(some 12), .mv (.t 158), none, false, []⟩] none)
 (.seq (.ops [⟨(some 159), .mv (.t 0), none, false, []⟩,
   ⟨(some 160), .mv (.t 12), none, false, []⟩,
   ⟨(some 161), .mv (.t 0), none, false, []⟩,
   ⟨(some 162), .faddr 4 (.t 3), none, false, []⟩,
   ⟨(some 163), .load false 1 (.t 162), none, false, []⟩,
   ⟨(some 164), .iaddr none 6 (.t 163) (.c (.int .i64 2)), none, false, []⟩,
   ⟨(some 165), .load true 6 (.t 164), none, false, []⟩,
   ⟨(some 166), .call (.c (.func 31 [] [])) [(.t 161), (.t 165)], none, false, []⟩,
   ⟨(some 167), .call (.c (.func 30 [] [])) [(.t 159), (.t 160), (.t 166)], none, false, []⟩] none)
 (.seq (.ops [⟨(some 168), .mv (.t 12), none, false, []⟩,
   ⟨(some 4), .mv (.t 168), none, false, []⟩] none)
 .ret)))) .skip))))))))))))))))))))
 (.seq (.ops [⟨(some 169), .mv (.t 0), none, false, []⟩,
   ⟨(some 170), .nilck (.t 169), none, false, []⟩,
   ⟨(some 171), .faddr 0 (.t 170), none, false, []⟩,
   ⟨(some 172), .call (.c (.func 49 [] [])) [(.t 171)], none, false, []⟩,
   ⟨(some 13), .mv (.t 172), none, false, []⟩] none)
 (.seq (.ops [⟨(some 173), .mv (.t 0), none, false, []⟩,
   ⟨(some 174), .faddr 4 (.t 3), none, false, []⟩,
   ⟨(some 175), .load false 1 (.t 174), none, false, []⟩,
   ⟨(some 176), .iaddr none 6 (.t 175) (.c (.int .i64 0)), none, false, []⟩,
   ⟨(some 177), .load true 6 (.t 176), none, false, []⟩,
   ⟨(some 178), .call (.c (.func 31 [] [])) [(.t 173), (.t 177)], none, false, []⟩,
   ⟨(some 14), .mv (.t 178), none, false, []⟩] none)
 (.seq (.seq (.ops [⟨(some 179), .faddr 5 (.t 3), none, false, []⟩,
   ⟨(some 180), .load false 1 (.t 179), none, false, []⟩,
   ⟨(some 181), .len 1 (.t 180), none, false, []⟩,
   ⟨(some 182), .mv (.c (.int .i64 0)), none, false, []⟩] none)
 (.block 3 (.loop (.seq (.ops [⟨(some 183), .bin .sc .lss (.t 182) (.t 181), none, false, []⟩] none)
 (.seq (.cond (.t 183) .skip (.exit 3))
 (.seq (.block 4 (.seq (.ops [⟨(some 184), .iaddr none 9 (.t 180) (.t 182), none, false, []⟩,
   ⟨(some 185), .load true 9 (.t 184), none, false, []⟩,
   ⟨(some 16), .alloc true [.int .i64 0, .str [], .pl [] 0 .nil, .int .i64 0, .int .i64 0, .str [], .int .i64 0, .pl [] 0 .nil, .pl [] 0 .nil], none, false, []⟩,
   ⟨none, .store 9 (.t 16) (.t 185), none, false, []⟩] none)
 (.seq (.ops [⟨(some 186), .mv (.t 0), none, false, []⟩,
   ⟨(some 187), .nilck (.t 186), none, false, []⟩,
   ⟨(some 188), .faddr 6 (.t 187), none, false, []⟩,
   ⟨(some 189), .load false 1 (.t 188), none, false, []⟩,
   ⟨(some 190), .not (.t 189), none, false, []⟩] none)
 (.cond (.t 190) (.ops [⟨(some 191), .mv (.t 0), none, false, []⟩,
   ⟨(some 192), .load true 9 (.t 16), none, false, []⟩,
   ⟨(some 193), .mv (.t 14), none, false, []⟩,
   ⟨(some 194), .mv (.t 13), none, false, []⟩,
   ⟨(some 195), .call (.c (.func 57 [] [])) [(.t 191), (.t 192), (.t 193), (.t 194)], none, false, []⟩] none) .skip))))
 (.ops [⟨(some 196), .bin .sc .add (.t 182) (.c (.int .i64 1)), none, false, []⟩,
   ⟨(some 182), .mv (.t 196), none, false, []⟩] none)))))))
 (.seq (.ops [⟨(some 197), .mv (.t 13), none, false, []⟩,
   ⟨(some 4), .mv (.t 197), none, false, []⟩] none)
 .ret))))))) }
/- (*infer.solver).fits -/
def f32 : AFunc :=
 { np := 2, ntmps := 94, results := [.tmp 4], frz := false, body :=
 (.seq (.ops [⟨(some 4), .mv (.c (.bool false)), none, false, []⟩] none)
 (.seq (.ops [⟨(some 14), .mkmap, none, false, []⟩,
   ⟨(some 5), .mv (.t 14), none, false, []⟩] none)
 (.seq (.ops [⟨(some 15), .mv (.t 0), none, false, []⟩,
   ⟨(some 16), .mv (.t 1), none, false, []⟩,
   ⟨(some 17), .call (.c (.func 58 [] [])) [(.t 15), (.t 16)], none, false, []⟩,
   ⟨(some 1), .mv (.t 17), none, false, []⟩] none)
 (.seq (.seq (.ops [⟨(some 18), .mv (.t 1), none, false, []⟩,
   ⟨(some 19), .bslice true 1 [.int .i64 0] [(0, 1, (.t 18))], none, false, []⟩,
   ⟨(some 6), .mv (.t 19), none, false, []⟩] none)
 (.block 0 (.loop (.seq (.seq (.ops [⟨(some 20), .mv (.t 6), none, false, []⟩,
   ⟨(some 21), .len 1 (.t 20), none, false, []⟩,
   ⟨(some 22), .bin .sc .gtr (.t 21) (.c (.int .i64 0)), none, false, []⟩] none)
 (.cond (.t 22) .skip (.exit 0)))
 (.block 1 (.seq (.ops [⟨(some 23), .mv (.t 6), none, false, []⟩,
   ⟨(some 24), .mv (.t 6), none, false, []⟩,
   ⟨(some 25), .len 1 (.t 24), none, false, []⟩,
   ⟨(some 26), .bin .sc .sub (.t 25) (.c (.int .i64 1)), none, false, []⟩,
   ⟨(some 27), .iaddr none 1 (.t 23) (.t 26), none, false, []⟩,
   ⟨(some 28), .load false 1 (.t 27), none, false, []⟩,
   ⟨(some 7), .mv (.t 28), none, false, []⟩] none)
 (.seq (.ops [⟨(some 29), .build [.int .i64 0, .int .i64 0] [(0, 1, (.c (.int .i64 1))), (1, 1, (.c (.int .i64 1)))], none, false, []⟩,
   ⟨(some 8), .alloc true [.int .i64 0, .int .i64 0], none, false, []⟩,
   ⟨none, .store 2 (.t 8) (.t 29), none, false, []⟩] none)
 (.seq (.ops [⟨(some 9), .mv (.c (.bool true)), none, false, []⟩] none)
 (.seq (.seq (.ops [⟨(some 30), .mv (.t 0), none, false, []⟩,
   ⟨(some 31), .nilck (.t 30), none, false, []⟩,
   ⟨(some 32), .faddr 0 (.t 31), none, false, []⟩,
   ⟨(some 33), .load false 1 (.t 32), none, false, []⟩,
   ⟨(some 34), .mv (.t 7), none, false, []⟩,
   ⟨(some 35), .iaddr none 4 (.t 33) (.t 34), none, false, []⟩,
   ⟨(some 36), .faddr 2 (.t 35), none, false, []⟩,
   ⟨(some 37), .load false 1 (.t 36), none, false, []⟩,
   ⟨(some 38), .len 1 (.t 37), none, false, []⟩,
   ⟨(some 39), .mv (.c (.int .i64 0)), none, false, []⟩] none)
 (.block 2 (.loop (.seq (.ops [⟨(some 40), .bin .sc .lss (.t 39) (.t 38), none, false, []⟩] none)
 (.seq (.cond (.t 40) .skip (.exit 2))
 (.seq (.block 3 (.seq (.ops [⟨(some 41), .iaddr none 1 (.t 37) (.t 39), none, false, []⟩,
   ⟨(some 42), .load false 1 (.t 41), none, false, []⟩,
   ⟨(some 11), .mv (.t 42), none, false, []⟩] none)
 (.seq (.ops [⟨(some 43), .mv (.t 0), none, false, []⟩,
   ⟨(some 44), .mv (.t 11), none, false, []⟩,
   ⟨(some 45), .call (.c (.func 58 [] [])) [(.t 43), (.t 44)], none, false, []⟩,
   ⟨(some 11), .mv (.t 45), none, false, []⟩] none)
 (.seq (.ops [⟨(some 47), .mv (.t 5), none, false, []⟩,
   ⟨(some 48), .mv (.t 11), none, false, []⟩,
   ⟨(some 49), .lookup (.one (.i .i64)) (.agg [.int .i64 0, .int .i64 0]) true (.t 47) (.t 48), none, false, []⟩,
   ⟨(some 46), .mv (.t 49), none, false, []⟩,
   ⟨(some 50), .extract 0 (.t 46), none, false, []⟩,
   ⟨(some 51), .extract 1 (.t 46), none, false, []⟩,
   ⟨(some 12), .alloc true [.int .i64 0, .int .i64 0], none, false, []⟩,
   ⟨none, .store 2 (.t 12) (.t 50), none, false, []⟩,
   ⟨(some 13), .mv (.t 51), none, false, []⟩] none)
 (.seq (.seq (.ops [⟨(some 52), .mv (.t 13), none, false, []⟩,
   ⟨(some 53), .not (.t 52), none, false, []⟩] none)
 (.cond (.t 53) (.seq (.ops [⟨(some 54), .mv (.t 6), none, false, []⟩,
   ⟨(some 55), .mv (.t 11), none, false, []⟩,
   ⟨(some 56), .bslice false 1 [.int .i64 0] [(0, 1, (.t 55))], none, false, []⟩,
   ⟨(some 57), .app true 1 8 (.t 54) (.t 56), none, false, []⟩,
   ⟨(some 6), .mv (.t 57), none, false, []⟩] none)
 (.ops [⟨(some 9), .mv (.c (.bool false)), none, false, []⟩] none)) .skip))
 (.ops [⟨(some 58), .faddr 0 (.t 8), none, false, []⟩,
   ⟨(some 59), .load false 1 (.t 58), none, false, []⟩,
   ⟨(some 60), .faddr 0 (.t 12), none, false, []⟩,
   ⟨(some 61), .load false 1 (.t 60), none, false, []⟩,
   ⟨(some 62), .bin .sc .add (.t 59) (.t 61), none, false, []⟩,
   ⟨(some 63), .min [(.t 62), (.c (.int .i64 401))], none, false, []⟩,
   ⟨(some 64), .faddr 1 (.t 8), none, false, []⟩,
   ⟨(some 65), .load false 1 (.t 64), none, false, []⟩,
   ⟨(some 66), .faddr 1 (.t 12), none, false, []⟩,
   ⟨(some 67), .load false 1 (.t 66), none, false, [8]⟩,
   ⟨(some 68), .bin .sc .add (.t 67) (.c (.int .i64 1)), none, false, []⟩,
   ⟨(some 69), .max [(.t 65), (.t 68)], none, false, []⟩,
   ⟨(some 70), .faddr 0 (.t 8), none, false, []⟩,
   ⟨none, .store 1 (.t 70) (.t 63), none, false, [8]⟩,
   ⟨(some 71), .faddr 1 (.t 8), none, false, []⟩,
   ⟨none, .store 1 (.t 71) (.t 69), none, false, []⟩] (some [[], [0], [], [2], [0, 1, 2, 3], [0, 1, 2, 3, 4], [], [6], [], [8], [8, 9], [6, 7, 8, 9, 10], [0, 1, 2, 3, 4, 5, 6, 7], [0, 1, 2, 3, 4, 5, 6, 7, 12], [0, 1, 2, 3, 4, 5, 6, 7, 8, 9, 10, 11, 12, 13], [0, 1, 2, 3, 4, 5, 6, 7, 8, 9, 10, 11, 12, 13, 14]])))))))
 (.ops [⟨(some 72), .bin .sc .add (.t 39) (.c (.int .i64 1)), none, false, []⟩,
   ⟨(some 39), .mv (.t 72), none, false, []⟩] none)))))))
 (.seq (.ops [⟨(some 73), .mv (.t 9), none, false, []⟩] none)
 (.cond (.t 73) (.seq (.ops [⟨(some 74), .mv (.t 5), none, false, []⟩,
   ⟨(some 75), .mv (.t 7), none, false, []⟩,
   ⟨(some 76), .load true 2 (.t 8), none, false, []⟩,
   ⟨none, .mupd (.one (.i .i64)) (.t 74) (.t 75) (.t 76), none, false, []⟩] none)
 (.ops [⟨(some 77), .mv (.t 6), none, false, []⟩,
   ⟨(some 78), .mv (.t 6), none, false, []⟩,
   ⟨(some 79), .len 1 (.t 78), none, false, []⟩,
   ⟨(some 80), .bin .sc .sub (.t 79) (.c (.int .i64 1)), none, false, []⟩,
   ⟨(some 81), .sliceL 1 (.t 77) none (some (.t 80)) none, none, false, []⟩,
   ⟨(some 6), .mv (.t 81), none, false, []⟩] none)) .skip)))))))))))
 (.seq (.ops [⟨(some 82), .mv (.t 5), none, false, []⟩,
   ⟨(some 83), .mv (.t 1), none, false, []⟩,
   ⟨(some 84), .lookup (.one (.i .i64)) (.agg [.int .i64 0, .int .i64 0]) false (.t 82) (.t 83), none, false, []⟩,
   ⟨(some 85), .field false 0 1 (.t 84), none, false, []⟩,
   ⟨(some 86), .bin .sc .leq (.t 85) (.c (.int .i64 400)), none, false, []⟩,
   ⟨(some 87), .mv (.t 86), none, false, []⟩,
   ⟨(some 88), .mv (.t 5), (some (87, true)), false, []⟩,
   ⟨(some 89), .mv (.t 1), (some (87, true)), false, []⟩,
   ⟨(some 90), .lookup (.one (.i .i64)) (.agg [.int .i64 0, .int .i64 0]) false (.t 88) (.t 89), (some (87, true)), false, []⟩,
   ⟨(some 91), .field false 1 1 (.t 90), (some (87, true)), false, []⟩,
   ⟨(some 92), .bin .sc .leq (.t 91) (.c (.int .i64 100)), (some (87, true)), false, []⟩,
   ⟨(some 93), .pick (.t 87) (.t 92) (.c (.bool false)), none, false, []⟩,
   ⟨(some 4), .mv (.t 93), none, false, []⟩] none)
 .ret))))) }
/- scheme.Of -/
def f33 : AFunc :=
 { np := 1, ntmps := 10, results := [.cell 2 5 true], frz := false, body :=
 (.seq (.ops [⟨(some 1), .box true (.t 0), none, false, []⟩,
   ⟨(some 2), .alloc true [.int .i64 0, .int .i64 0, .int .i64 0, .str [], .pl [] 0 .nil], none, false, []⟩] none)
 (.seq (.ops [⟨(some 3), .load true 4 (.t 1), none, false, []⟩,
   ⟨(some 4), .call (.c (.func 59 [] [])) [(.t 3)], none, false, []⟩,
   ⟨none, .store 4 (.t 1) (.t 4), none, false, []⟩] none)
 (.seq (.ops [⟨(some 5), .load true 4 (.t 1), none, false, []⟩,
   ⟨(some 6), .call (.c (.func 60 [] [])) [(.t 5)], none, false, []⟩,
   ⟨(some 7), .len 1 (.t 6), none, false, []⟩,
   ⟨(some 8), .load true 4 (.t 1), none, true, []⟩,
   ⟨(some 9), .build [.int .i64 0, .int .i64 0, .int .i64 0, .str [], .pl [] 0 .nil] [(0, 1, (.t 7)), (1, 4, (.t 8))], none, false, []⟩,
   ⟨none, .store 5 (.t 2) (.t 9), none, false, []⟩] (some [[], [0], [0, 1], [], [0, 1, 2, 3], [0, 1, 2, 3, 4]]))
 .ret))) }
/- (*infer.solver).tell -/
def f34 : AFunc :=
 { np := 3, ntmps := 63, results := [.cell 6 4 true], frz := false, body :=
 (.seq (.ops [⟨(some 6), .alloc true [.int .i64 0, .int .i64 0, .str [], .pl [] 0 .nil], none, false, []⟩] none)
 (.seq (.ops [⟨(some 13), .mv (.t 0), none, false, []⟩,
   ⟨(some 14), .mv (.t 1), none, false, []⟩,
   ⟨(some 15), .call (.c (.func 58 [] [])) [(.t 13), (.t 14)], none, false, []⟩,
   ⟨(some 1), .mv (.t 15), none, false, []⟩] none)
 (.seq (.ops [⟨(some 16), .mv (.t 0), none, false, []⟩,
   ⟨(some 17), .nilck (.t 16), none, false, []⟩,
   ⟨(some 18), .faddr 0 (.t 17), none, false, []⟩,
   ⟨(some 19), .load false 1 (.t 18), none, false, []⟩,
   ⟨(some 20), .mv (.t 1), none, false, []⟩,
   ⟨(some 21), .iaddr none 4 (.t 19) (.t 20), none, false, []⟩,
   ⟨(some 22), .load true 4 (.t 21), none, false, []⟩,
   ⟨(some 7), .alloc true [.bool false, .str [], .pl [] 0 .nil, .int .i64 0], none, false, []⟩,
   ⟨none, .store 4 (.t 7) (.t 22), none, false, []⟩] none)
 (.seq (.seq (.ops [⟨(some 23), .faddr 0 (.t 7), none, false, []⟩,
   ⟨(some 24), .load false 1 (.t 23), none, false, []⟩,
   ⟨(some 25), .not (.t 24), none, false, []⟩] none)
 (.cond (.t 25) (.seq (.seq (.ops [⟨(some 27), .mv (.t 2), none, false, []⟩,
   ⟨(some 28), .mv (.t 1), none, false, []⟩,
   ⟨(some 29), .lookup (.one (.i .i64)) (.int .i64 0) true (.t 27) (.t 28), none, false, []⟩,
   ⟨(some 26), .mv (.t 29), none, false, []⟩,
   ⟨(some 30), .extract 0 (.t 26), none, false, []⟩,
   ⟨(some 31), .extract 1 (.t 26), none, false, []⟩,
   ⟨(some 8), .mv (.t 30), none, false, []⟩,
   ⟨(some 9), .mv (.t 31), none, false, []⟩] none)
 (.seq (.ops [⟨(some 32), .mv (.t 9), none, false, []⟩,
   ⟨(some 33), .not (.t 32), none, false, []⟩] none)
 (.cond (.t 33) (.ops [⟨(some 34), .mv (.t 2), none, false, []⟩,
   ⟨(some 35), .mv (.t 1), none, false, []⟩,
   ⟨(some 36), .mv (.t 2), none, false, []⟩,
   ⟨(some 37), .len 2 (.t 36), none, false, []⟩,
   ⟨none, .mupd (.one (.i .i64)) (.t 34) (.t 35) (.t 37), none, false, []⟩] none) .skip)))
 (.seq (.ops [⟨(some 38), .mv (.t 2), none, false, []⟩,
   ⟨(some 39), .mv (.t 1), none, false, []⟩,
   ⟨(some 40), .lookup (.one (.i .i64)) (.int .i64 0) false (.t 38) (.t 39), none, false, []⟩,
   ⟨(some 41), .build [.int .i64 0, .int .i64 0, .str [], .pl [] 0 .nil] [(0, 1, (.c (.int .i64 1))), (1, 1, (.t 40))], none, false, []⟩,
   ⟨none, .store 4 (.t 6) (.t 41), none, false, []⟩] none)
 .ret)) .skip))
 (.seq (.ops [⟨(some 42), .faddr 1 (.t 7), none, false, []⟩,
   ⟨(some 43), .load false 1 (.t 42), none, false, []⟩,
   ⟨(some 44), .build [.int .i64 0, .int .i64 0, .str [], .pl [] 0 .nil] [(0, 1, (.c (.int .i64 2))), (2, 1, (.t 43))], none, false, []⟩,
   ⟨(some 10), .alloc true [.int .i64 0, .int .i64 0, .str [], .pl [] 0 .nil], none, false, []⟩,
   ⟨none, .store 4 (.t 10) (.t 44), none, false, []⟩] none)
 (.seq (.seq (.ops [⟨(some 45), .faddr 2 (.t 7), none, false, []⟩,
   ⟨(some 46), .load false 1 (.t 45), none, false, []⟩,
   ⟨(some 47), .len 1 (.t 46), none, false, []⟩,
   ⟨(some 48), .mv (.c (.int .i64 0)), none, false, []⟩] none)
 (.block 0 (.loop (.seq (.ops [⟨(some 49), .bin .sc .lss (.t 48) (.t 47), none, false, []⟩] none)
 (.seq (.cond (.t 49) .skip (.exit 0))
 (.seq (.block 1 (.seq (.ops [⟨(some 50), .iaddr none 1 (.t 46) (.t 48), none, false, []⟩,
   ⟨(some 51), .load false 1 (.t 50), none, false, []⟩,
   ⟨(some 12), .mv (.t 51), none, false, []⟩] none)
 (.ops [⟨(some 52), .faddr 3 (.t 10), none, false, []⟩,
   ⟨(some 53), .load false 1 (.t 52), none, true, []⟩,
   ⟨(some 54), .mv (.t 0), none, false, []⟩,
   ⟨(some 55), .mv (.t 12), none, false, []⟩,
   ⟨(some 56), .mv (.t 2), none, false, []⟩,
   ⟨(some 57), .call (.c (.func 34 [] [])) [(.t 54), (.t 55), (.t 56)], none, false, []⟩,
   ⟨(some 58), .bslice false 1 [.int .i64 0, .int .i64 0, .str [], .pl [] 0 .nil] [(0, 4, (.t 57))], none, false, []⟩,
   ⟨(some 59), .app false 4 56 (.t 53) (.t 58), none, false, []⟩,
   ⟨(some 60), .faddr 3 (.t 10), none, false, []⟩,
   ⟨none, .store 1 (.t 60) (.t 59), none, false, []⟩] (some [[], [0], [], [], [], [2, 3, 4], [2, 3, 4, 5], [0, 1, 2, 3, 4, 5, 6], [0, 1, 2, 3, 4, 5, 6, 7], [0, 1, 2, 3, 4, 5, 6, 7, 8]]))))
 (.ops [⟨(some 61), .bin .sc .add (.t 48) (.c (.int .i64 1)), none, false, []⟩,
   ⟨(some 48), .mv (.t 61), none, false, []⟩] none)))))))
 (.seq (.ops [⟨(some 62), .load true 4 (.t 10), none, false, []⟩,
   ⟨none, .store 4 (.t 6) (.t 62), none, false, []⟩] none)
 .ret))))))) }
/- warpref9.Digits -/
def f35 : AFunc :=
 { np := 1, ntmps := 23, results := [.tmp 2], frz := false, body :=
 (.seq (.ops [⟨(some 2), .mv (.c (.str [])), none, false, []⟩] none)
 (.seq (.ops [⟨(some 3), .mv (.c (.str [])), none, false, []⟩] none)
 (.seq (.block 0 (.loop (.seq (.seq (.ops [⟨(some 4), .mv (.t 0), none, false, []⟩,
   ⟨(some 5), .bin .sc .geq (.t 4) (.c (.int .i64 10)), none, false, []⟩] none)
 (.cond (.t 5) .skip (.exit 0)))
 (.block 1 (.seq (.ops [⟨(some 6), .mv (.t 0), none, false, []⟩,
   ⟨(some 7), .bin .sc .rem (.t 6) (.c (.int .i64 10)), none, false, []⟩,
   ⟨(some 8), .bin .sc .add (.c (.int .i64 48)) (.t 7), none, false, []⟩,
   ⟨(some 9), .cint .u8 (.t 8), none, false, []⟩,
   ⟨(some 10), .bslice false 1 [.int .u8 0] [(0, 1, (.t 9))], none, false, []⟩,
   ⟨(some 11), .bstr (.t 10), none, false, []⟩,
   ⟨(some 12), .mv (.t 3), none, false, []⟩,
   ⟨(some 13), .bin .sc .add (.t 11) (.t 12), none, false, []⟩,
   ⟨(some 3), .mv (.t 13), none, false, []⟩] none)
 (.ops [⟨(some 14), .mv (.t 0), none, false, []⟩,
   ⟨(some 15), .bin .sc .quo (.t 14) (.c (.int .i64 10)), none, false, []⟩,
   ⟨(some 0), .mv (.t 15), none, false, []⟩] none))))))
 (.seq (.ops [⟨(some 16), .mv (.t 0), none, false, []⟩,
   ⟨(some 17), .bin .sc .add (.c (.int .i64 48)) (.t 16), none, false, []⟩,
   ⟨(some 18), .cint .u8 (.t 17), none, false, []⟩,
   ⟨(some 19), .bslice false 1 [.int .u8 0] [(0, 1, (.t 18))], none, false, []⟩,
   ⟨(some 20), .bstr (.t 19), none, false, []⟩,
   ⟨(some 21), .mv (.t 3), none, false, []⟩,
   ⟨(some 22), .bin .sc .add (.t 20) (.t 21), none, false, []⟩,
   ⟨(some 2), .mv (.t 22), none, false, []⟩] none)
 .ret)))) }
/- warpref9.SameTypes -/
def f36 : AFunc :=
 { np := 2, ntmps := 27, results := [.tmp 4], frz := false, body :=
 (.seq (.ops [⟨(some 4), .mv (.c (.bool false)), none, false, []⟩] none)
 (.seq (.seq (.ops [⟨(some 6), .mv (.t 0), none, false, []⟩,
   ⟨(some 7), .len 1 (.t 6), none, false, []⟩,
   ⟨(some 8), .mv (.t 1), none, false, []⟩,
   ⟨(some 9), .len 1 (.t 8), none, false, []⟩,
   ⟨(some 10), .bin .sc .neq (.t 7) (.t 9), none, false, []⟩] none)
 (.cond (.t 10) (.seq (.ops [⟨(some 4), .mv (.c (.bool false)), none, false, []⟩] none)
 .ret) .skip))
 (.seq (.seq (.ops [⟨(some 5), .mv (.c (.int .i64 0)), none, false, []⟩] none)
 (.block 0 (.loop (.seq (.seq (.ops [⟨(some 11), .mv (.t 5), none, false, []⟩,
   ⟨(some 12), .mv (.t 0), none, false, []⟩,
   ⟨(some 13), .len 1 (.t 12), none, false, []⟩,
   ⟨(some 14), .bin .sc .lss (.t 11) (.t 13), none, false, []⟩] none)
 (.cond (.t 14) .skip (.exit 0)))
 (.seq (.block 1 (.seq (.ops [⟨(some 17), .mv (.t 0), none, false, []⟩,
   ⟨(some 18), .mv (.t 5), none, false, []⟩,
   ⟨(some 19), .iaddr none 4 (.t 17) (.t 18), none, false, []⟩,
   ⟨(some 20), .load true 4 (.t 19), none, false, []⟩,
   ⟨(some 21), .mv (.t 1), none, false, []⟩,
   ⟨(some 22), .mv (.t 5), none, false, []⟩,
   ⟨(some 23), .iaddr none 4 (.t 21) (.t 22), none, false, []⟩,
   ⟨(some 24), .load true 4 (.t 23), none, false, []⟩,
   ⟨(some 25), .call (.c (.func 22 [] [])) [(.t 20), (.t 24)], none, false, []⟩,
   ⟨(some 26), .not (.t 25), none, false, []⟩] (some [[], [], [0, 1], [0, 1, 2], [], [], [4, 5], [4, 5, 6], [0, 1, 2, 3, 4, 5, 6, 7], [0, 1, 2, 3, 4, 5, 6, 7, 8]]))
 (.cond (.t 26) (.seq (.ops [⟨(some 4), .mv (.c (.bool false)), none, false, []⟩] none)
 .ret) .skip)))
 (.ops [⟨(some 15), .mv (.t 5), none, false, []⟩,
   ⟨(some 16), .bin .sc .add (.t 15) (.c (.int .i64 1)), none, false, []⟩,
   ⟨(some 5), .mv (.t 16), none, false, []⟩] none))))))
 (.seq (.ops [⟨(some 4), .mv (.c (.bool true)), none, false, []⟩] none)
 .ret)))) }
/- warpref15.renamed -/
def f37 : AFunc :=
 { np := 2, ntmps := 42, results := [.cell 4 4 true], frz := false, body :=
 (.seq (.ops [⟨(some 2), .box true (.t 0), none, false, []⟩,
   ⟨(some 4), .alloc true [.int .i64 0, .int .i64 0, .str [], .pl [] 0 .nil], none, false, []⟩] none)
 (.seq (.seq (.ops [⟨(some 7), .faddr 0 (.t 2), none, false, []⟩,
   ⟨(some 8), .load false 1 (.t 7), none, false, []⟩,
   ⟨(some 9), .bin .sc .eql (.t 8) (.c (.int .i64 1)), none, false, []⟩] none)
 (.cond (.t 9) (.seq (.ops [⟨(some 10), .mv (.t 1), none, false, []⟩,
   ⟨(some 11), .faddr 1 (.t 2), none, false, []⟩,
   ⟨(some 12), .load false 1 (.t 11), none, false, []⟩,
   ⟨(some 13), .call (.c (.func 61 [] [])) [(.t 10), (.t 12)], none, false, []⟩,
   ⟨(some 14), .call (.c (.func 14 [] [])) [(.t 13)], none, false, []⟩,
   ⟨none, .store 4 (.t 4) (.t 14), none, false, []⟩] none)
 .ret) .skip))
 (.seq (.ops [⟨(some 15), .faddr 0 (.t 2), none, false, []⟩,
   ⟨(some 16), .load false 1 (.t 15), none, false, []⟩,
   ⟨(some 17), .faddr 1 (.t 2), none, false, []⟩,
   ⟨(some 18), .load false 1 (.t 17), none, false, []⟩,
   ⟨(some 19), .faddr 2 (.t 2), none, false, []⟩,
   ⟨(some 20), .load false 1 (.t 19), none, false, []⟩,
   ⟨(some 21), .build [.int .i64 0, .int .i64 0, .str [], .pl [] 0 .nil] [(0, 1, (.t 16)), (1, 1, (.t 18)), (2, 1, (.t 20))], none, false, []⟩,
   ⟨(some 5), .alloc true [.int .i64 0, .int .i64 0, .str [], .pl [] 0 .nil], none, false, []⟩,
   ⟨none, .store 4 (.t 5) (.t 21), none, false, []⟩] none)
 (.seq (.seq (.ops [⟨(some 6), .mv (.c (.int .i64 0)), none, false, []⟩] none)
 (.block 0 (.loop (.seq (.seq (.ops [⟨(some 22), .mv (.t 6), none, false, []⟩,
   ⟨(some 23), .faddr 3 (.t 2), none, false, []⟩,
   ⟨(some 24), .load false 1 (.t 23), none, false, []⟩,
   ⟨(some 25), .len 1 (.t 24), none, false, []⟩,
   ⟨(some 26), .bin .sc .lss (.t 22) (.t 25), none, false, []⟩] none)
 (.cond (.t 26) .skip (.exit 0)))
 (.seq (.block 1 (.ops [⟨(some 29), .faddr 3 (.t 5), none, false, []⟩,
   ⟨(some 30), .load false 1 (.t 29), none, true, []⟩,
   ⟨(some 31), .faddr 3 (.t 2), none, false, []⟩,
   ⟨(some 32), .load false 1 (.t 31), none, false, []⟩,
   ⟨(some 33), .mv (.t 6), none, false, []⟩,
   ⟨(some 34), .iaddr none 4 (.t 32) (.t 33), none, false, []⟩,
   ⟨(some 35), .load true 4 (.t 34), none, false, []⟩,
   ⟨(some 36), .mv (.t 1), none, false, []⟩,
   ⟨(some 37), .call (.c (.func 37 [] [])) [(.t 35), (.t 36)], none, false, []⟩,
   ⟨(some 38), .bslice false 1 [.int .i64 0, .int .i64 0, .str [], .pl [] 0 .nil] [(0, 4, (.t 37))], none, false, []⟩,
   ⟨(some 39), .app false 4 56 (.t 30) (.t 38), none, false, []⟩,
   ⟨(some 40), .faddr 3 (.t 5), none, false, []⟩,
   ⟨none, .store 1 (.t 40) (.t 39), none, false, []⟩] (some [[], [0], [], [2], [], [2, 3, 4], [2, 3, 4, 5], [], [2, 3, 4, 5, 6, 7], [2, 3, 4, 5, 6, 7, 8], [0, 1, 2, 3, 4, 5, 6, 7, 8, 9], [0, 1, 2, 3, 4, 5, 6, 7, 8, 9, 10], [0, 1, 2, 3, 4, 5, 6, 7, 8, 9, 10, 11]])))
 (.ops [⟨(some 27), .mv (.t 6), none, false, []⟩,
   ⟨(some 28), .bin .sc .add (.t 27) (.c (.int .i64 1)), none, false, []⟩,
   ⟨(some 6), .mv (.t 28), none, false, []⟩] none))))))
 (.seq (.ops [⟨(some 41), .load true 4 (.t 5), none, false, []⟩,
   ⟨none, .store 4 (.t 4) (.t 41), none, false, []⟩] none)
 .ret))))) }
/- warpref15.vars -/
def f38 : AFunc :=
 { np := 2, ntmps := 38, results := [.tmp 4], frz := false, body :=
 (.seq (.ops [⟨(some 3), .box true (.t 1), none, false, []⟩,
   ⟨(some 4), .mv (.c (.pl [] 0 .nil)), none, false, []⟩] none)
 (.seq (.seq (.ops [⟨(some 6), .faddr 0 (.t 3), none, false, []⟩,
   ⟨(some 7), .load false 1 (.t 6), none, false, []⟩,
   ⟨(some 8), .bin .sc .eql (.t 7) (.c (.int .i64 1)), none, false, []⟩,
   ⟨(some 9), .mv (.t 8), none, false, []⟩,
   ⟨(some 10), .mv (.t 0), (some (9, true)), false, []⟩,
   ⟨(some 11), .faddr 1 (.t 3), (some (9, true)), false, []⟩,
   ⟨(some 12), .load false 1 (.t 11), (some (9, true)), false, []⟩,
   ⟨(some 13), .call (.c (.func 61 [] [])) [(.t 10), (.t 12)], (some (9, true)), false, []⟩,
   ⟨(some 14), .bin .sc .lss (.t 13) (.c (.int .i64 0)), (some (9, true)), false, []⟩,
   ⟨(some 15), .pick (.t 9) (.t 14) (.c (.bool false)), none, false, []⟩] none)
 (.cond (.t 15) (.ops [⟨(some 16), .bslice false 0 [] [], none, false, []⟩,
   ⟨(some 17), .mv (.t 0), none, false, []⟩,
   ⟨(some 18), .app false 1 8 (.t 16) (.t 17), none, false, []⟩,
   ⟨(some 19), .faddr 1 (.t 3), none, false, []⟩,
   ⟨(some 20), .load false 1 (.t 19), none, true, []⟩,
   ⟨(some 21), .bslice false 1 [.int .i64 0] [(0, 1, (.t 20))], none, false, []⟩,
   ⟨(some 22), .app false 1 8 (.t 18) (.t 21), none, false, []⟩,
   ⟨(some 0), .mv (.t 22), none, false, []⟩] (some [[], [], [0, 1], [], [3], [3, 4], [0, 1, 2, 3, 4, 5], [0, 1, 2, 3, 4, 5, 6]])) .skip))
 (.seq (.seq (.ops [⟨(some 5), .mv (.c (.int .i64 0)), none, false, []⟩] none)
 (.block 0 (.loop (.seq (.seq (.ops [⟨(some 23), .mv (.t 5), none, false, []⟩,
   ⟨(some 24), .faddr 3 (.t 3), none, false, []⟩,
   ⟨(some 25), .load false 1 (.t 24), none, false, []⟩,
   ⟨(some 26), .len 1 (.t 25), none, false, []⟩,
   ⟨(some 27), .bin .sc .lss (.t 23) (.t 26), none, false, []⟩] none)
 (.cond (.t 27) .skip (.exit 0)))
 (.seq (.block 1 (.ops [⟨(some 30), .mv (.t 0), none, false, []⟩,
   ⟨(some 31), .faddr 3 (.t 3), none, false, []⟩,
   ⟨(some 32), .load false 1 (.t 31), none, false, []⟩,
   ⟨(some 33), .mv (.t 5), none, false, []⟩,
   ⟨(some 34), .iaddr none 4 (.t 32) (.t 33), none, false, []⟩,
   ⟨(some 35), .load true 4 (.t 34), none, false, []⟩,
   ⟨(some 36), .call (.c (.func 38 [] [])) [(.t 30), (.t 35)], none, false, []⟩,
   ⟨(some 0), .mv (.t 36), none, false, []⟩] none))
 (.ops [⟨(some 28), .mv (.t 5), none, false, []⟩,
   ⟨(some 29), .bin .sc .add (.t 28) (.c (.int .i64 1)), none, false, []⟩,
   ⟨(some 5), .mv (.t 29), none, false, []⟩] none))))))
 (.seq (.ops [⟨(some 37), .mv (.t 0), none, false, []⟩,
   ⟨(some 4), .mv (.t 37), none, false, []⟩] none)
 .ret)))) }
/- warpref9.Lex -/
def f39 : AFunc :=
 { np := 1, ntmps := 203, results := [.cell 2 3 true], frz := false, body :=
 (.seq (.ops [⟨(some 2), .alloc true [.pl [] 0 .nil, .int .i64 0, .int .i64 0], none, false, []⟩] none)
 (.seq (.seq (.ops [⟨(some 8), .mv (.t 0), none, false, []⟩,
   ⟨(some 9), .len 0 (.t 8), none, false, []⟩,
   ⟨(some 10), .bin .sc .gtr (.t 9) (.c (.int .i64 65536)), none, false, []⟩] none)
 (.cond (.t 10) (.seq (.ops [⟨(some 11), .build [.pl [] 0 .nil, .int .i64 0, .int .i64 0] [(1, 1, (.c (.int .i64 1)))], none, false, []⟩,
   ⟨none, .store 3 (.t 2) (.t 11), none, false, []⟩] none)
 .ret) .skip))
 (.seq (.ops [⟨(some 3), .alloc true [.pl [] 0 .nil, .int .i64 0, .int .i64 0], none, false, []⟩] none)
 (.seq (.seq (.ops [⟨(some 4), .mv (.c (.int .i64 0)), none, false, []⟩] none)
 (.block 0 (.loop (.seq (.seq (.ops [⟨(some 12), .mv (.t 4), none, false, []⟩,
   ⟨(some 13), .mv (.t 0), none, false, []⟩,
   ⟨(some 14), .len 0 (.t 13), none, false, []⟩,
   ⟨(some 15), .bin .sc .lss (.t 12) (.t 14), none, false, []⟩] none)
 (.cond (.t 15) .skip (.exit 0)))
 (.block 1 (.seq (.ops [⟨(some 16), .mv (.t 0), none, false, []⟩,
   ⟨(some 17), .mv (.t 4), none, false, []⟩,
   ⟨(some 18), .index (.t 16) (.t 17), none, false, []⟩,
   ⟨(some 5), .mv (.t 18), none, false, []⟩] none)
 (.seq (.seq (.ops [⟨(some 19), .mv (.t 5), none, false, []⟩,
   ⟨(some 20), .bin .sc .eql (.t 19) (.c (.int .u8 32)), none, false, []⟩,
   ⟨(some 21), .mv (.t 20), none, false, []⟩,
   ⟨(some 22), .mv (.t 5), (some (21, false)), false, []⟩,
   ⟨(some 23), .bin .sc .eql (.t 22) (.c (.int .u8 9)), (some (21, false)), false, []⟩,
   ⟨(some 24), .pick (.t 21) (.c (.bool true)) (.t 23), none, false, []⟩,
   ⟨(some 25), .mv (.t 24), none, false, []⟩,
   ⟨(some 26), .mv (.t 5), (some (25, false)), false, []⟩,
   ⟨(some 27), .bin .sc .eql (.t 26) (.c (.int .u8 10)), (some (25, false)), false, []⟩,
   ⟨(some 28), .pick (.t 25) (.c (.bool true)) (.t 27), none, false, []⟩] none)
 (.cond (.t 28) (.seq (.ops [⟨(some 29), .mv (.t 4), none, false, []⟩,
   ⟨(some 30), .bin .sc .add (.t 29) (.c (.int .i64 1)), none, false, []⟩,
   ⟨(some 4), .mv (.t 30), none, false, []⟩] none)
 (.exit 1)) .skip))
 (.seq (.seq (.ops [⟨(some 31), .mv (.t 5), none, false, []⟩,
   ⟨(some 32), .bin .sc .eql (.t 31) (.c (.int .u8 45)), none, false, []⟩,
   ⟨(some 33), .mv (.t 32), none, false, []⟩,
   ⟨(some 34), .mv (.t 4), (some (33, true)), false, []⟩,
   ⟨(some 35), .bin .sc .add (.t 34) (.c (.int .i64 1)), (some (33, true)), false, []⟩,
   ⟨(some 36), .mv (.t 0), (some (33, true)), false, []⟩,
   ⟨(some 37), .len 0 (.t 36), (some (33, true)), false, []⟩,
   ⟨(some 38), .bin .sc .lss (.t 35) (.t 37), (some (33, true)), false, []⟩,
   ⟨(some 39), .pick (.t 33) (.t 38) (.c (.bool false)), none, false, []⟩,
   ⟨(some 40), .mv (.t 39), none, false, []⟩,
   ⟨(some 41), .mv (.t 0), (some (40, true)), false, []⟩,
   ⟨(some 42), .mv (.t 4), (some (40, true)), false, []⟩,
   ⟨(some 43), .bin .sc .add (.t 42) (.c (.int .i64 1)), (some (40, true)), false, []⟩,
   ⟨(some 44), .index (.t 41) (.t 43), (some (40, true)), false, []⟩,
   ⟨(some 45), .bin .sc .eql (.t 44) (.c (.int .u8 45)), (some (40, true)), false, []⟩,
   ⟨(some 46), .pick (.t 40) (.t 45) (.c (.bool false)), none, false, []⟩] none)
 (.cond (.t 46) (.seq (.block 2 (.loop (.seq (.seq (.ops [⟨(some 47), .mv (.t 4), none, false, []⟩,
   ⟨(some 48), .mv (.t 0), none, false, []⟩,
   ⟨(some 49), .len 0 (.t 48), none, false, []⟩,
   ⟨(some 50), .bin .sc .lss (.t 47) (.t 49), none, false, []⟩,
   ⟨(some 51), .mv (.t 50), none, false, []⟩,
   ⟨(some 52), .mv (.t 0), (some (51, true)), false, []⟩,
   ⟨(some 53), .mv (.t 4), (some (51, true)), false, []⟩,
   ⟨(some 54), .index (.t 52) (.t 53), (some (51, true)), false, []⟩,
   ⟨(some 55), .bin .sc .neq (.t 54) (.c (.int .u8 10)), (some (51, true)), false, []⟩,
   ⟨(some 56), .pick (.t 51) (.t 55) (.c (.bool false)), none, false, []⟩] none)
 (.cond (.t 56) .skip (.exit 2)))
 (.block 3 (.ops [⟨(some 57), .mv (.t 4), none, false, []⟩,
   ⟨(some 58), .bin .sc .add (.t 57) (.c (.int .i64 1)), none, false, []⟩,
   ⟨(some 4), .mv (.t 58), none, false, []⟩] none)))))
 (.exit 1)) .skip))
 (.seq (.ops [⟨(some 59), .mv (.t 4), none, false, []⟩,
   ⟨(some 60), .build [.int .i64 0, .int .i64 0, .str [], .int .i64 0] [(1, 1, (.t 59))], none, false, []⟩,
   ⟨(some 6), .alloc true [.int .i64 0, .int .i64 0, .str [], .int .i64 0], none, false, []⟩,
   ⟨none, .store 4 (.t 6) (.t 60), none, false, []⟩] none)
 (.seq (.ops [⟨(some 61), .mv (.t 4), none, false, []⟩,
   ⟨(some 7), .mv (.t 61), none, false, []⟩] none)
 (.seq (.block 4 (.seq (.ops [⟨(some 63), .mv (.t 5), none, false, []⟩,
   ⟨(some 64), .call (.c (.func 62 [] [])) [(.t 63)], none, false, []⟩,
   ⟨(some 65), .mv (.t 64), none, false, []⟩,
   ⟨(some 66), .mv (.t 5), (some (65, false)), false, []⟩,
   ⟨(some 67), .call (.c (.func 63 [] [])) [(.t 66)], (some (65, false)), false, []⟩,
   ⟨(some 68), .pick (.t 65) (.c (.bool true)) (.t 67), none, false, []⟩,
   ⟨(some 62), .mv (.t 68), none, false, []⟩] none)
 (.cond (.t 62) (.seq (.block 5 (.loop (.seq (.seq (.ops [⟨(some 69), .mv (.t 7), none, false, []⟩,
   ⟨(some 70), .mv (.t 0), none, false, []⟩,
   ⟨(some 71), .len 0 (.t 70), none, false, []⟩,
   ⟨(some 72), .bin .sc .lss (.t 69) (.t 71), none, false, []⟩,
   ⟨(some 73), .mv (.t 72), none, false, []⟩,
   ⟨(some 74), .mv (.t 0), (some (73, true)), false, []⟩,
   ⟨(some 75), .mv (.t 7), (some (73, true)), false, []⟩,
   ⟨(some 76), .index (.t 74) (.t 75), (some (73, true)), false, []⟩,
   ⟨(some 77), .call (.c (.func 64 [] [])) [(.t 76)], (some (73, true)), false, []⟩,
   ⟨(some 78), .pick (.t 73) (.t 77) (.c (.bool false)), none, false, []⟩] none)
 (.cond (.t 78) .skip (.exit 5)))
 (.block 6 (.ops [⟨(some 79), .mv (.t 7), none, false, []⟩,
   ⟨(some 80), .bin .sc .add (.t 79) (.c (.int .i64 1)), none, false, []⟩,
   ⟨(some 7), .mv (.t 80), none, false, []⟩] none)))))
 (.seq (.ops [⟨(some 81), .mv (.t 0), none, false, []⟩,
   ⟨(some 82), .mv (.t 4), none, false, []⟩,
   ⟨(some 83), .mv (.t 7), none, false, []⟩,
   ⟨(some 84), .sliceS (.t 81) (some (.t 82)) (some (.t 83)), none, false, []⟩,
   ⟨(some 85), .faddr 2 (.t 6), none, false, []⟩,
   ⟨none, .store 1 (.t 85) (.t 84), none, false, []⟩] none)
 (.block 7 (.seq (.ops [⟨(some 87), .faddr 2 (.t 6), none, false, []⟩,
   ⟨(some 88), .load false 1 (.t 87), none, false, []⟩,
   ⟨(some 89), .call (.c (.func 65 [] [])) [(.t 88)], none, false, []⟩,
   ⟨(some 86), .mv (.t 89), none, false, []⟩] none)
 (.cond (.t 86) (.ops [⟨(some 90), .faddr 0 (.t 6), none, false, []⟩,
   ⟨none, .store 1 (.t 90) (.c (.int .i64 4)), none, false, []⟩] none) (.seq (.ops [⟨(some 92), .faddr 2 (.t 6), none, false, []⟩,
   ⟨(some 93), .load false 1 (.t 92), none, false, []⟩,
   ⟨(some 94), .call (.c (.func 66 [] [])) [(.t 93)], none, false, []⟩,
   ⟨(some 91), .mv (.t 94), none, false, []⟩] none)
 (.cond (.t 91) (.ops [⟨(some 95), .faddr 0 (.t 6), none, false, []⟩,
   ⟨none, .store 1 (.t 95) (.c (.int .i64 1)), none, false, []⟩] none) (.seq (.ops [⟨(some 97), .faddr 2 (.t 6), none, false, []⟩,
   ⟨(some 98), .load false 1 (.t 97), none, false, []⟩,
   ⟨(some 99), .call (.c (.func 67 [] [])) [(.t 98)], none, false, []⟩,
   ⟨(some 96), .mv (.t 99), none, false, []⟩] none)
 (.cond (.t 96) (.ops [⟨(some 100), .faddr 0 (.t 6), none, false, []⟩,
   ⟨none, .store 1 (.t 100) (.c (.int .i64 2)), none, false, []⟩] none) .skip))))))))) (.seq (.ops [⟨(some 102), .mv (.t 5), none, false, []⟩,
   ⟨(some 103), .call (.c (.func 68 [] [])) [(.t 102)], none, false, []⟩,
   ⟨(some 101), .mv (.t 103), none, false, []⟩] none)
 (.cond (.t 101) (.seq (.block 8 (.loop (.seq (.seq (.ops [⟨(some 104), .mv (.t 7), none, false, []⟩,
   ⟨(some 105), .mv (.t 0), none, false, []⟩,
   ⟨(some 106), .len 0 (.t 105), none, false, []⟩,
   ⟨(some 107), .bin .sc .lss (.t 104) (.t 106), none, false, []⟩,
   ⟨(some 108), .mv (.t 107), none, false, []⟩,
   ⟨(some 109), .mv (.t 0), (some (108, true)), false, []⟩,
   ⟨(some 110), .mv (.t 7), (some (108, true)), false, []⟩,
   ⟨(some 111), .index (.t 109) (.t 110), (some (108, true)), false, []⟩,
   ⟨(some 112), .call (.c (.func 68 [] [])) [(.t 111)], (some (108, true)), false, []⟩,
   ⟨(some 113), .pick (.t 108) (.t 112) (.c (.bool false)), none, false, []⟩] none)
 (.cond (.t 113) .skip (.exit 8)))
 (.block 9 (.ops [⟨(some 114), .mv (.t 7), none, false, []⟩,
   ⟨(some 115), .bin .sc .add (.t 114) (.c (.int .i64 1)), none, false, []⟩,
   ⟨(some 7), .mv (.t 115), none, false, []⟩] none)))))
 (.seq (.ops [⟨(some 116), .mv (.t 0), none, false, []⟩,
   ⟨(some 117), .mv (.t 4), none, false, []⟩,
   ⟨(some 118), .mv (.t 7), none, false, []⟩,
   ⟨(some 119), .sliceS (.t 116) (some (.t 117)) (some (.t 118)), none, false, []⟩,
   ⟨(some 120), .call (.c (.func 69 [] [])) [(.t 119)], none, false, []⟩,
   ⟨(some 121), .faddr 3 (.t 6), none, false, []⟩,
   ⟨none, .store 1 (.t 121) (.t 120), none, false, []⟩] none)
 (.seq (.ops [⟨(some 122), .faddr 3 (.t 6), none, false, []⟩,
   ⟨(some 123), .load false 1 (.t 122), none, false, []⟩,
   ⟨(some 124), .bin .sc .geq (.t 123) (.c (.int .i64 0)), none, false, []⟩] none)
 (.cond (.t 124) (.ops [⟨(some 125), .faddr 0 (.t 6), none, false, []⟩,
   ⟨none, .store 1 (.t 125) (.c (.int .i64 3)), none, false, []⟩] none) .skip)))) (.seq (.ops [⟨(some 127), .mv (.t 5), none, false, []⟩,
   ⟨(some 128), .bin .sc .eql (.t 127) (.c (.int .u8 45)), none, false, []⟩,
   ⟨(some 129), .mv (.t 128), none, false, []⟩,
   ⟨(some 130), .mv (.t 4), (some (129, true)), false, []⟩,
   ⟨(some 131), .bin .sc .add (.t 130) (.c (.int .i64 1)), (some (129, true)), false, []⟩,
   ⟨(some 132), .mv (.t 0), (some (129, true)), false, []⟩,
   ⟨(some 133), .len 0 (.t 132), (some (129, true)), false, []⟩,
   ⟨(some 134), .bin .sc .lss (.t 131) (.t 133), (some (129, true)), false, []⟩,
   ⟨(some 135), .pick (.t 129) (.t 134) (.c (.bool false)), none, false, []⟩,
   ⟨(some 136), .mv (.t 135), none, false, []⟩,
   ⟨(some 137), .mv (.t 0), (some (136, true)), false, []⟩,
   ⟨(some 138), .mv (.t 4), (some (136, true)), false, []⟩,
   ⟨(some 139), .bin .sc .add (.t 138) (.c (.int .i64 1)), (some (136, true)), false, []⟩,
   ⟨(some 140), .index (.t 137) (.t 139), (some (136, true)), false, []⟩,
   ⟨(some 141), .bin .sc .eql (.t 140) (.c (.int .u8 62)), (some (136, true)), false, []⟩,
   ⟨(some 142), .pick (.t 136) (.t 141) (.c (.bool false)), none, false, []⟩,
   ⟨(some 126), .mv (.t 142), none, false, []⟩] none)
 (.cond (.t 126) (.seq (.ops [⟨(some 143), .mv (.t 4), none, false, []⟩,
   ⟨(some 144), .bin .sc .add (.t 143) (.c (.int .i64 2)), none, false, []⟩,
   ⟨(some 7), .mv (.t 144), none, false, []⟩] none)
 (.seq (.ops [⟨(some 145), .faddr 0 (.t 6), none, false, []⟩,
   ⟨none, .store 1 (.t 145) (.c (.int .i64 5)), none, false, []⟩] none)
 (.ops [⟨(some 146), .faddr 2 (.t 6), none, false, []⟩,
   ⟨none, .store 1 (.t 146) (.c (.str [45, 62])), none, false, []⟩] none))) (.seq (.ops [⟨(some 148), .mv (.t 5), none, false, []⟩,
   ⟨(some 149), .bin .sc .eql (.t 148) (.c (.int .u8 92)), none, false, []⟩,
   ⟨(some 150), .mv (.t 149), none, false, []⟩,
   ⟨(some 151), .mv (.t 5), (some (150, false)), false, []⟩,
   ⟨(some 152), .bin .sc .eql (.t 151) (.c (.int .u8 61)), (some (150, false)), false, []⟩,
   ⟨(some 153), .pick (.t 150) (.c (.bool true)) (.t 152), none, false, []⟩,
   ⟨(some 154), .mv (.t 153), none, false, []⟩,
   ⟨(some 155), .mv (.t 5), (some (154, false)), false, []⟩,
   ⟨(some 156), .bin .sc .eql (.t 155) (.c (.int .u8 59)), (some (154, false)), false, []⟩,
   ⟨(some 157), .pick (.t 154) (.c (.bool true)) (.t 156), none, false, []⟩,
   ⟨(some 158), .mv (.t 157), none, false, []⟩,
   ⟨(some 159), .mv (.t 5), (some (158, false)), false, []⟩,
   ⟨(some 160), .bin .sc .eql (.t 159) (.c (.int .u8 124)), (some (158, false)), false, []⟩,
   ⟨(some 161), .pick (.t 158) (.c (.bool true)) (.t 160), none, false, []⟩,
   ⟨(some 162), .mv (.t 161), none, false, []⟩,
   ⟨(some 163), .mv (.t 5), (some (162, false)), false, []⟩,
   ⟨(some 164), .bin .sc .eql (.t 163) (.c (.int .u8 40)), (some (162, false)), false, []⟩,
   ⟨(some 165), .pick (.t 162) (.c (.bool true)) (.t 164), none, false, []⟩,
   ⟨(some 166), .mv (.t 165), none, false, []⟩,
   ⟨(some 167), .mv (.t 5), (some (166, false)), false, []⟩,
   ⟨(some 168), .bin .sc .eql (.t 167) (.c (.int .u8 41)), (some (166, false)), false, []⟩,
   ⟨(some 169), .pick (.t 166) (.c (.bool true)) (.t 168), none, false, []⟩,
   ⟨(some 170), .mv (.t 169), none, false, []⟩,
   ⟨(some 171), .mv (.t 5), (some (170, false)), false, []⟩,
   ⟨(some 172), .bin .sc .eql (.t 171) (.c (.int .u8 44)), (some (170, false)), false, []⟩,
   ⟨(some 173), .pick (.t 170) (.c (.bool true)) (.t 172), none, false, []⟩,
   ⟨(some 174), .mv (.t 173), none, false, []⟩,
   ⟨(some 175), .mv (.t 5), (some (174, false)), false, []⟩,
   ⟨(some 176), .bin .sc .eql (.t 175) (.c (.int .u8 123)), (some (174, false)), false, []⟩,
   ⟨(some 177), .pick (.t 174) (.c (.bool true)) (.t 176), none, false, []⟩,
   ⟨(some 178), .mv (.t 177), none, false, []⟩,
   ⟨(some 179), .mv (.t 5), (some (178, false)), false, []⟩,
   ⟨(some 180), .bin .sc .eql (.t 179) (.c (.int .u8 125)), (some (178, false)), false, []⟩,
   ⟨(some 181), .pick (.t 178) (.c (.bool true)) (.t 180), none, false, []⟩,
   ⟨(some 147), .mv (.t 181), none, false, []⟩] none)
 (.cond (.t 147) (.seq (.ops [⟨(some 182), .mv (.t 4), none, false, []⟩,
   ⟨(some 183), .bin .sc .add (.t 182) (.c (.int .i64 1)), none, false, []⟩,
   ⟨(some 7), .mv (.t 183), none, false, []⟩] none)
 (.seq (.ops [⟨(some 184), .faddr 0 (.t 6), none, false, []⟩,
   ⟨none, .store 1 (.t 184) (.c (.int .i64 5)), none, false, []⟩] none)
 (.ops [⟨(some 185), .mv (.t 0), none, false, []⟩,
   ⟨(some 186), .mv (.t 4), none, false, []⟩,
   ⟨(some 187), .mv (.t 7), none, false, []⟩,
   ⟨(some 188), .sliceS (.t 185) (some (.t 186)) (some (.t 187)), none, false, []⟩,
   ⟨(some 189), .faddr 2 (.t 6), none, false, []⟩,
   ⟨none, .store 1 (.t 189) (.t 188), none, false, []⟩] none))) .skip)))))))))
 (.seq (.seq (.ops [⟨(some 190), .faddr 0 (.t 6), none, false, []⟩,
   ⟨(some 191), .load false 1 (.t 190), none, false, []⟩,
   ⟨(some 192), .bin .sc .eql (.t 191) (.c (.int .i64 0)), none, false, []⟩] none)
 (.cond (.t 192) (.seq (.ops [⟨(some 193), .mv (.t 4), none, false, []⟩,
   ⟨(some 194), .build [.pl [] 0 .nil, .int .i64 0, .int .i64 0] [(1, 1, (.c (.int .i64 3))), (2, 1, (.t 193))], none, false, []⟩,
   ⟨none, .store 3 (.t 2) (.t 194), none, false, []⟩] none)
 .ret) .skip))
 (.seq (.ops [⟨(some 195), .faddr 0 (.t 3), none, false, []⟩,
   ⟨(some 196), .load false 1 (.t 195), none, false, []⟩,
   ⟨(some 197), .load true 4 (.t 6), none, false, []⟩,
   ⟨(some 198), .bslice false 1 [.int .i64 0, .int .i64 0, .str [], .int .i64 0] [(0, 4, (.t 197))], none, false, []⟩,
   ⟨(some 199), .app false 4 40 (.t 196) (.t 198), none, false, []⟩,
   ⟨(some 200), .faddr 0 (.t 3), none, false, []⟩,
   ⟨none, .store 1 (.t 200) (.t 199), none, false, []⟩] none)
 (.ops [⟨(some 201), .mv (.t 7), none, false, []⟩,
   ⟨(some 4), .mv (.t 201), none, false, []⟩] none))))))))))))))
 (.seq (.ops [⟨(some 202), .load true 3 (.t 3), none, false, []⟩,
   ⟨none, .store 3 (.t 2) (.t 202), none, false, []⟩] none)
 .ret))))) }
/- (*warpref9.parser).peek -/
def f40 : AFunc :=
 { np := 3, ntmps := 58, results := [.tmp 6], frz := false, body :=
 (.seq (.ops [⟨(some 6), .mv (.c (.bool false)), none, false, []⟩] none)
 (.seq (.ops [⟨(some 7), .mv (.t 0), none, false, []⟩,
   ⟨(some 8), .nilck (.t 7), none, false, []⟩,
   ⟨(some 9), .faddr 3 (.t 8), none, false, []⟩,
   ⟨(some 10), .load false 1 (.t 9), none, false, []⟩,
   ⟨(some 11), .not (.t 10), none, false, []⟩,
   ⟨(some 12), .mv (.t 11), none, false, []⟩,
   ⟨(some 13), .mv (.t 0), (some (12, true)), false, []⟩,
   ⟨(some 14), .nilck (.t 13), (some (12, true)), false, []⟩,
   ⟨(some 15), .faddr 1 (.t 14), (some (12, true)), false, []⟩,
   ⟨(some 16), .load false 1 (.t 15), (some (12, true)), false, []⟩,
   ⟨(some 17), .mv (.t 0), (some (12, true)), false, []⟩,
   ⟨(some 18), .nilck (.t 17), (some (12, true)), false, []⟩,
   ⟨(some 19), .faddr 0 (.t 18), (some (12, true)), false, []⟩,
   ⟨(some 20), .load false 1 (.t 19), (some (12, true)), false, []⟩,
   ⟨(some 21), .len 1 (.t 20), (some (12, true)), false, []⟩,
   ⟨(some 22), .bin .sc .lss (.t 16) (.t 21), (some (12, true)), false, []⟩,
   ⟨(some 23), .pick (.t 12) (.t 22) (.c (.bool false)), none, false, []⟩,
   ⟨(some 24), .mv (.t 23), none, false, []⟩,
   ⟨(some 25), .mv (.t 0), (some (24, true)), false, []⟩,
   ⟨(some 26), .nilck (.t 25), (some (24, true)), false, []⟩,
   ⟨(some 27), .faddr 0 (.t 26), (some (24, true)), false, []⟩,
   ⟨(some 28), .load false 1 (.t 27), (some (24, true)), false, []⟩,
   ⟨(some 29), .mv (.t 0), (some (24, true)), false, []⟩,
   ⟨(some 30), .nilck (.t 29), (some (24, true)), false, []⟩,
   ⟨(some 31), .faddr 1 (.t 30), (some (24, true)), false, []⟩,
   ⟨(some 32), .load false 1 (.t 31), (some (24, true)), false, []⟩,
   ⟨(some 33), .iaddr none 4 (.t 28) (.t 32), (some (24, true)), false, []⟩,
   ⟨(some 34), .faddr 0 (.t 33), (some (24, true)), false, []⟩,
   ⟨(some 35), .load false 1 (.t 34), (some (24, true)), false, []⟩,
   ⟨(some 36), .mv (.t 1), (some (24, true)), false, []⟩,
   ⟨(some 37), .bin .sc .eql (.t 35) (.t 36), (some (24, true)), false, []⟩,
   ⟨(some 38), .pick (.t 24) (.t 37) (.c (.bool false)), none, false, []⟩,
   ⟨(some 39), .mv (.t 38), none, false, []⟩,
   ⟨(some 40), .mv (.t 2), (some (39, true)), false, []⟩,
   ⟨(some 41), .bin .sc .eql (.t 40) (.c (.str [])), (some (39, true)), false, []⟩,
   ⟨(some 42), .mv (.t 41), (some (39, true)), false, []⟩,
   ⟨(some 43), .mv (.t 0), (some (42, false)), false, []⟩,
   ⟨(some 44), .nilck (.t 43), (some (42, false)), false, []⟩,
   ⟨(some 45), .faddr 0 (.t 44), (some (42, false)), false, []⟩,
   ⟨(some 46), .load false 1 (.t 45), (some (42, false)), false, []⟩,
   ⟨(some 47), .mv (.t 0), (some (42, false)), false, []⟩,
   ⟨(some 48), .nilck (.t 47), (some (42, false)), false, []⟩,
   ⟨(some 49), .faddr 1 (.t 48), (some (42, false)), false, []⟩,
   ⟨(some 50), .load false 1 (.t 49), (some (42, false)), false, []⟩,
   ⟨(some 51), .iaddr none 4 (.t 46) (.t 50), (some (42, false)), false, []⟩,
   ⟨(some 52), .faddr 2 (.t 51), (some (42, false)), false, []⟩,
   ⟨(some 53), .load false 1 (.t 52), (some (42, false)), false, []⟩,
   ⟨(some 54), .mv (.t 2), (some (42, false)), false, []⟩,
   ⟨(some 55), .bin .sc .eql (.t 53) (.t 54), (some (42, false)), false, []⟩,
   ⟨(some 56), .pick (.t 42) (.c (.bool true)) (.t 55), (some (39, true)), false, []⟩,
   ⟨(some 57), .pick (.t 39) (.t 56) (.c (.bool false)), none, false, []⟩,
   ⟨(some 6), .mv (.t 57), none, false, []⟩] (some [[], [0], [0, 1], [0, 1, 2], [0, 1, 2, 3], [0, 1, 2, 3, 4], [0, 1, 2, 3, 4, 5], [0, 1, 2, 3, 4, 5, 6], [0, 1, 2, 3, 4, 5, 6, 7], [0, 1, 2, 3, 4, 5, 6, 7, 8], [0, 1, 2, 3, 4, 5], [0, 1, 2, 3, 4, 5, 10], [0, 1, 2, 3, 4, 5, 10, 11], [0, 1, 2, 3, 4, 5, 10, 11, 12], [0, 1, 2, 3, 4, 5, 10, 11, 12, 13], [0, 1, 2, 3, 4, 5, 6, 7, 8, 9, 10, 11, 12, 13, 14], [0, 1, 2, 3, 4, 5, 6, 7, 8, 9, 10, 11, 12, 13, 14, 15], [0, 1, 2, 3, 4, 5, 6, 7, 8, 9, 10, 11, 12, 13, 14, 15, 16], [0, 1, 2, 3, 4, 5, 6, 7, 8, 9, 10, 11, 12, 13, 14, 15, 16, 17], [0, 1, 2, 3, 4, 5, 6, 7, 8, 9, 10, 11, 12, 13, 14, 15, 16, 17, 18], [0, 1, 2, 3, 4, 5, 6, 7, 8, 9, 10, 11, 12, 13, 14, 15, 16, 17, 18, 19], [0, 1, 2, 3, 4, 5, 6, 7, 8, 9, 10, 11, 12, 13, 14, 15, 16, 17, 18, 19, 20], [0, 1, 2, 3, 4, 5, 6, 7, 8, 9, 10, 11, 12, 13, 14, 15, 16, 17], [0, 1, 2, 3, 4, 5, 6, 7, 8, 9, 10, 11, 12, 13, 14, 15, 16, 17, 22], [0, 1, 2, 3, 4, 5, 6, 7, 8, 9, 10, 11, 12, 13, 14, 15, 16, 17, 22, 23], [0, 1, 2, 3, 4, 5, 6, 7, 8, 9, 10, 11, 12, 13, 14, 15, 16, 17, 22, 23, 24], [0, 1, 2, 3, 4, 5, 6, 7, 8, 9, 10, 11, 12, 13, 14, 15, 16, 17, 18, 19, 20, 21, 22, 23, 24, 25], [0, 1, 2, 3, 4, 5, 6, 7, 8, 9, 10, 11, 12, 13, 14, 15, 16, 17, 18, 19, 20, 21, 22, 23, 24, 25, 26], [0, 1, 2, 3, 4, 5, 6, 7, 8, 9, 10, 11, 12, 13, 14, 15, 16, 17, 18, 19, 20, 21, 22, 23, 24, 25, 26, 27], [0, 1, 2, 3, 4, 5, 6, 7, 8, 9, 10, 11, 12, 13, 14, 15, 16, 17], [0, 1, 2, 3, 4, 5, 6, 7, 8, 9, 10, 11, 12, 13, 14, 15, 16, 17, 18, 19, 20, 21, 22, 23, 24, 25, 26, 27, 28, 29], [0, 1, 2, 3, 4, 5, 6, 7, 8, 9, 10, 11, 12, 13, 14, 15, 16, 17, 18, 19, 20, 21, 22, 23, 24, 25, 26, 27, 28, 29, 30], [0, 1, 2, 3, 4, 5, 6, 7, 8, 9, 10, 11, 12, 13, 14, 15, 16, 17, 18, 19, 20, 21, 22, 23, 24, 25, 26, 27, 28, 29, 30, 31], [0, 1, 2, 3, 4, 5, 6, 7, 8, 9, 10, 11, 12, 13, 14, 15, 16, 17, 18, 19, 20, 21, 22, 23, 24, 25, 26, 27, 28, 29, 30, 31, 32], [0, 1, 2, 3, 4, 5, 6, 7, 8, 9, 10, 11, 12, 13, 14, 15, 16, 17, 18, 19, 20, 21, 22, 23, 24, 25, 26, 27, 28, 29, 30, 31, 32, 33], [0, 1, 2, 3, 4, 5, 6, 7, 8, 9, 10, 11, 12, 13, 14, 15, 16, 17, 18, 19, 20, 21, 22, 23, 24, 25, 26, 27, 28, 29, 30, 31, 32, 33, 34], [0, 1, 2, 3, 4, 5, 6, 7, 8, 9, 10, 11, 12, 13, 14, 15, 16, 17, 18, 19, 20, 21, 22, 23, 24, 25, 26, 27, 28, 29, 30, 31, 32, 33, 34, 35], [0, 1, 2, 3, 4, 5, 6, 7, 8, 9, 10, 11, 12, 13, 14, 15, 16, 17, 18, 19, 20, 21, 22, 23, 24, 25, 26, 27, 28, 29, 30, 31, 32, 33, 34, 35, 36], [0, 1, 2, 3, 4, 5, 6, 7, 8, 9, 10, 11, 12, 13, 14, 15, 16, 17, 18, 19, 20, 21, 22, 23, 24, 25, 26, 27, 28, 29, 30, 31, 32, 33, 34, 35, 36, 37], [0, 1, 2, 3, 4, 5, 6, 7, 8, 9, 10, 11, 12, 13, 14, 15, 16, 17, 18, 19, 20, 21, 22, 23, 24, 25, 26, 27, 28, 29, 30, 31, 32, 33, 34, 35, 36, 37, 38], [0, 1, 2, 3, 4, 5, 6, 7, 8, 9, 10, 11, 12, 13, 14, 15, 16, 17, 18, 19, 20, 21, 22, 23, 24, 25, 26, 27, 28, 29, 30, 31, 32, 33, 34, 35], [0, 1, 2, 3, 4, 5, 6, 7, 8, 9, 10, 11, 12, 13, 14, 15, 16, 17, 18, 19, 20, 21, 22, 23, 24, 25, 26, 27, 28, 29, 30, 31, 32, 33, 34, 35, 40], [0, 1, 2, 3, 4, 5, 6, 7, 8, 9, 10, 11, 12, 13, 14, 15, 16, 17, 18, 19, 20, 21, 22, 23, 24, 25, 26, 27, 28, 29, 30, 31, 32, 33, 34, 35, 40, 41], [0, 1, 2, 3, 4, 5, 6, 7, 8, 9, 10, 11, 12, 13, 14, 15, 16, 17, 18, 19, 20, 21, 22, 23, 24, 25, 26, 27, 28, 29, 30, 31, 32, 33, 34, 35, 40, 41, 42], [0, 1, 2, 3, 4, 5, 6, 7, 8, 9, 10, 11, 12, 13, 14, 15, 16, 17, 18, 19, 20, 21, 22, 23, 24, 25, 26, 27, 28, 29, 30, 31, 32, 33, 34, 35, 36, 37, 38, 39, 40, 41, 42, 43], [0, 1, 2, 3, 4, 5, 6, 7, 8, 9, 10, 11, 12, 13, 14, 15, 16, 17, 18, 19, 20, 21, 22, 23, 24, 25, 26, 27, 28, 29, 30, 31, 32, 33, 34, 35, 36, 37, 38, 39, 40, 41, 42, 43, 44], [0, 1, 2, 3, 4, 5, 6, 7, 8, 9, 10, 11, 12, 13, 14, 15, 16, 17, 18, 19, 20, 21, 22, 23, 24, 25, 26, 27, 28, 29, 30, 31, 32, 33, 34, 35, 36, 37, 38, 39, 40, 41, 42, 43, 44, 45], [0, 1, 2, 3, 4, 5, 6, 7, 8, 9, 10, 11, 12, 13, 14, 15, 16, 17, 18, 19, 20, 21, 22, 23, 24, 25, 26, 27, 28, 29, 30, 31, 32, 33, 34, 35], [0, 1, 2, 3, 4, 5, 6, 7, 8, 9, 10, 11, 12, 13, 14, 15, 16, 17, 18, 19, 20, 21, 22, 23, 24, 25, 26, 27, 28, 29, 30, 31, 32, 33, 34, 35, 36, 37, 38, 39, 40, 41, 42, 43, 44, 45, 46, 47], [0, 1, 2, 3, 4, 5, 6, 7, 8, 9, 10, 11, 12, 13, 14, 15, 16, 17, 18, 19, 20, 21, 22, 23, 24, 25, 26, 27, 28, 29, 30, 31, 32, 33, 34, 35, 36, 37, 38, 39, 40, 41, 42, 43, 44, 45, 46, 47, 48], [0, 1, 2, 3, 4, 5, 6, 7, 8, 9, 10, 11, 12, 13, 14, 15, 16, 17, 18, 19, 20, 21, 22, 23, 24, 25, 26, 27, 28, 29, 30, 31, 32, 33, 34, 35, 36, 37, 38, 39, 40, 41, 42, 43, 44, 45, 46, 47, 48, 49], [0, 1, 2, 3, 4, 5, 6, 7, 8, 9, 10, 11, 12, 13, 14, 15, 16, 17, 18, 19, 20, 21, 22, 23, 24, 25, 26, 27, 28, 29, 30, 31, 32, 33, 34, 35, 36, 37, 38, 39, 40, 41, 42, 43, 44, 45, 46, 47, 48, 49, 50]]))
 .ret)) }
/- (*warpref9.parser).eat -/
def f41 : AFunc :=
 { np := 3, ntmps := 33, results := [.cell 6 4 true], frz := false, body :=
 (.seq (.ops [⟨(some 6), .alloc true [.int .i64 0, .int .i64 0, .str [], .int .i64 0], none, false, []⟩] none)
 (.seq (.seq (.ops [⟨(some 7), .mv (.t 0), none, false, []⟩,
   ⟨(some 8), .mv (.t 1), none, false, []⟩,
   ⟨(some 9), .mv (.t 2), none, false, []⟩,
   ⟨(some 10), .call (.c (.func 40 [] [])) [(.t 7), (.t 8), (.t 9)], none, false, []⟩,
   ⟨(some 11), .not (.t 10), none, false, []⟩] none)
 (.cond (.t 11) (.seq (.ops [⟨(some 12), .mv (.t 0), none, false, []⟩,
   ⟨(some 13), .call (.c (.func 70 [] [])) [(.t 12)], none, false, []⟩] none)
 (.seq (.ops [⟨(some 14), .build [.int .i64 0, .int .i64 0, .str [], .int .i64 0] [], none, false, []⟩,
   ⟨none, .store 4 (.t 6) (.t 14), none, false, []⟩] none)
 .ret)) .skip))
 (.seq (.ops [⟨(some 15), .mv (.t 0), none, false, []⟩,
   ⟨(some 16), .nilck (.t 15), none, false, []⟩,
   ⟨(some 17), .faddr 1 (.t 16), none, false, []⟩,
   ⟨(some 18), .load false 1 (.t 17), none, false, []⟩,
   ⟨(some 19), .bin .sc .add (.t 18) (.c (.int .i64 1)), none, false, []⟩,
   ⟨(some 20), .nilck (.t 15), none, false, []⟩,
   ⟨(some 21), .faddr 1 (.t 20), none, false, []⟩,
   ⟨none, .store 1 (.t 21) (.t 19), none, false, []⟩] none)
 (.seq (.ops [⟨(some 22), .mv (.t 0), none, false, []⟩,
   ⟨(some 23), .nilck (.t 22), none, false, []⟩,
   ⟨(some 24), .faddr 0 (.t 23), none, false, []⟩,
   ⟨(some 25), .load false 1 (.t 24), none, false, []⟩,
   ⟨(some 26), .mv (.t 0), none, false, []⟩,
   ⟨(some 27), .nilck (.t 26), none, false, []⟩,
   ⟨(some 28), .faddr 1 (.t 27), none, false, []⟩,
   ⟨(some 29), .load false 1 (.t 28), none, false, []⟩,
   ⟨(some 30), .bin .sc .sub (.t 29) (.c (.int .i64 1)), none, false, []⟩,
   ⟨(some 31), .iaddr none 4 (.t 25) (.t 30), none, false, []⟩,
   ⟨(some 32), .load true 4 (.t 31), none, false, []⟩,
   ⟨none, .store 4 (.t 6) (.t 32), none, false, []⟩] (some [[], [0], [0, 1], [0, 1, 2], [], [4], [4, 5], [4, 5, 6], [4, 5, 6, 7], [0, 1, 2, 3, 4, 5, 6, 7, 8], [0, 1, 2, 3, 4, 5, 6, 7, 8, 9], [0, 1, 2, 3, 4, 5, 6, 7, 8, 9, 10]]))
 .ret)))) }
/- (*warpref9.parser).names -/
def f42 : AFunc :=
 { np := 1, ntmps := 12, results := [.tmp 2], frz := false, body :=
 (.seq (.ops [⟨(some 2), .mv (.c (.pl [] 0 .nil)), none, false, []⟩] none)
 (.seq (.ops [⟨(some 3), .mv (.c (.pl [] 0 .nil)), none, false, []⟩] none)
 (.seq (.block 0 (.loop (.seq (.seq (.ops [⟨(some 4), .mv (.t 0), none, false, []⟩,
   ⟨(some 5), .call (.c (.func 40 [] [])) [(.t 4), (.c (.int .i64 1)), (.c (.str []))], none, false, []⟩] none)
 (.cond (.t 5) .skip (.exit 0)))
 (.block 1 (.ops [⟨(some 6), .mv (.t 3), none, false, []⟩,
   ⟨(some 7), .mv (.t 0), none, false, []⟩,
   ⟨(some 8), .call (.c (.func 41 [] [])) [(.t 7), (.c (.int .i64 1)), (.c (.str []))], none, false, []⟩,
   ⟨(some 9), .bslice false 1 [.int .i64 0, .int .i64 0, .str [], .int .i64 0] [(0, 4, (.t 8))], none, false, []⟩,
   ⟨(some 10), .app false 4 40 (.t 6) (.t 9), none, false, []⟩,
   ⟨(some 3), .mv (.t 10), none, false, []⟩] none)))))
 (.seq (.ops [⟨(some 11), .mv (.t 3), none, false, []⟩,
   ⟨(some 2), .mv (.t 11), none, false, []⟩] none)
 .ret)))) }
/- (*warpref9.parser).sign -/
def f43 : AFunc :=
 { np := 2, ntmps := 7, results := [], frz := false, body :=
 (.ops [⟨(some 4), .mv (.t 0), none, false, []⟩,
   ⟨(some 5), .mv (.t 1), none, false, []⟩,
   ⟨(some 6), .call (.c (.func 41 [] [])) [(.t 4), (.c (.int .i64 5)), (.t 5)], none, false, []⟩] none) }
end Go.Am.Infer
