/- Values of InferBad: texts, what they are as programs, the schemes. -/
import Derived.Test.YtjjcongjjikifaaAmIf
set_option maxRecDepth 100000
set_option linter.unusedVariables false
namespace Go.Am.Infer
open Go.Am
def Dd : AV := .pl [.str [76, 105, 115, 116], .int .i64 5, .pl [.str [97]] 1 .no, .pl [.str [78, 105, 108], .int .i64 14, .pl [] 0 .nil, .str [67, 111, 110, 115], .int .i64 20, .pl [.int .i64 1, .int .i64 0, .str [], .pl [] 0 .nil, .int .i64 2, .int .i64 0, .str [76, 105, 115, 116], .pl [.int .i64 1, .int .i64 0, .str [], .pl [] 0 .nil] 1 .no] 2 .no] 2 .no, .str [79, 112, 116], .int .i64 42, .pl [.str [97]] 1 .no, .pl [.str [78, 111, 110, 101], .int .i64 50, .pl [] 0 .nil, .str [83, 111, 109, 101], .int .i64 57, .pl [.int .i64 1, .int .i64 0, .str [], .pl [] 0 .nil] 1 .no] 2 .no, .str [70], .int .i64 70, .pl [.str [97], .str [98]] 2 .no, .pl [.str [79, 100, 100], .int .i64 78, .pl [.int .i64 2, .int .i64 0, .str [45, 62], .pl [.int .i64 1, .int .i64 0, .str [], .pl [] 0 .nil, .int .i64 1, .int .i64 1, .str [], .pl [] 0 .nil] 2 .exact, .int .i64 2, .int .i64 0, .str [44], .pl [.int .i64 1, .int .i64 0, .str [], .pl [] 0 .nil, .int .i64 2, .int .i64 0, .str [73, 110, 116], .pl [] 0 .nil] 2 .no] 2 .no] 1 .no] 3 .no
def s0 : AV := .str [108, 101, 116, 32, 105, 100, 32, 120, 32, 61, 32, 120, 59]
def b0 : AV := .pl [.str [105, 100], .int .i64 105, .int .i64 6, .int .i64 105, .str [120], .int .i64 0, .pl [.int .i64 1, .int .i64 112, .str [120], .int .i64 0, .pl [] 0 .nil, .pl [] 0 .nil] 1 .exact, .pl [] 0 .nil] 1 .no
def r0 : AV := .tup [.pl [.int .i64 1, .int .i64 2, .int .i64 0, .str [45, 62], .pl [.int .i64 1, .int .i64 0, .str [], .pl [] 0 .nil, .int .i64 1, .int .i64 0, .str [], .pl [] 0 .nil] 2 .no] 1 .no, .int .i64 0]
def s1 : AV := .str [108, 101, 116, 32, 102, 32, 61, 32, 49, 32, 50, 59]
def b1 : AV := .pl [.str [102], .int .i64 105, .int .i64 5, .int .i64 109, .str [], .int .i64 0, .pl [.int .i64 3, .int .i64 109, .str [], .int .i64 1, .pl [] 0 .nil, .pl [] 0 .nil, .int .i64 3, .int .i64 111, .str [], .int .i64 2, .pl [] 0 .nil, .pl [] 0 .nil] 2 .exact, .pl [] 0 .nil] 1 .no
def r1 : AV := .tup [.pl [] 0 .nil, .int .i64 8]
def s2 : AV := .str [108, 101, 116, 32, 102, 32, 120, 32, 61, 32, 120, 32, 120, 59]
def b2 : AV := .pl [.str [102], .int .i64 105, .int .i64 6, .int .i64 105, .str [120], .int .i64 0, .pl [.int .i64 5, .int .i64 111, .str [], .int .i64 0, .pl [.int .i64 1, .int .i64 111, .str [120], .int .i64 0, .pl [] 0 .nil, .pl [] 0 .nil, .int .i64 1, .int .i64 113, .str [120], .int .i64 0, .pl [] 0 .nil, .pl [] 0 .nil] 2 .exact, .pl [] 0 .nil] 1 .exact, .pl [] 0 .nil] 1 .no
def r2 : AV := .tup [.pl [] 0 .nil, .int .i64 8]
def s3 : AV := .str [108, 101, 116, 32, 102, 32, 61, 32, 116, 114, 117, 101, 32, 49, 59]
def b3 : AV := .pl [.str [102], .int .i64 105, .int .i64 5, .int .i64 109, .str [], .int .i64 0, .pl [.int .i64 4, .int .i64 109, .str [], .int .i64 1, .pl [] 0 .nil, .pl [] 0 .nil, .int .i64 3, .int .i64 114, .str [], .int .i64 1, .pl [] 0 .nil, .pl [] 0 .nil] 2 .exact, .pl [] 0 .nil] 1 .no
def r3 : AV := .tup [.pl [] 0 .nil, .int .i64 8]
def s4 : AV := .str [108, 101, 116, 32, 102, 32, 61, 32, 105, 102, 32, 49, 32, 116, 104, 101, 110, 32, 50, 32, 101, 108, 115, 101, 32, 51, 59]
def b4 : AV := .pl [.str [102], .int .i64 105, .int .i64 9, .int .i64 109, .str [], .int .i64 0, .pl [.int .i64 3, .int .i64 112, .str [], .int .i64 1, .pl [] 0 .nil, .pl [] 0 .nil, .int .i64 3, .int .i64 119, .str [], .int .i64 2, .pl [] 0 .nil, .pl [] 0 .nil, .int .i64 3, .int .i64 126, .str [], .int .i64 3, .pl [] 0 .nil, .pl [] 0 .nil] 3 .exact, .pl [] 0 .nil] 1 .no
def r4 : AV := .tup [.pl [] 0 .nil, .int .i64 8]
def s5 : AV := .str [108, 101, 116, 32, 102, 32, 61, 32, 105, 102, 32, 116, 114, 117, 101, 32, 116, 104, 101, 110, 32, 49, 32, 101, 108, 115, 101, 32, 116, 114, 117, 101, 59]
def b5 : AV := .pl [.str [102], .int .i64 105, .int .i64 9, .int .i64 109, .str [], .int .i64 0, .pl [.int .i64 4, .int .i64 112, .str [], .int .i64 1, .pl [] 0 .nil, .pl [] 0 .nil, .int .i64 3, .int .i64 122, .str [], .int .i64 1, .pl [] 0 .nil, .pl [] 0 .nil, .int .i64 4, .int .i64 129, .str [], .int .i64 1, .pl [] 0 .nil, .pl [] 0 .nil] 3 .exact, .pl [] 0 .nil] 1 .no
def r5 : AV := .tup [.pl [] 0 .nil, .int .i64 8]
def s6 : AV := .str [108, 101, 116, 32, 102, 32, 103, 32, 61, 32, 40, 103, 32, 49, 44, 32, 103, 32, 116, 114, 117, 101, 41, 59]
def b6 : AV := .pl [.str [102], .int .i64 105, .int .i64 6, .int .i64 105, .str [103], .int .i64 0, .pl [.int .i64 8, .int .i64 111, .str [], .int .i64 0, .pl [.int .i64 5, .int .i64 112, .str [], .int .i64 0, .pl [.int .i64 1, .int .i64 112, .str [103], .int .i64 0, .pl [] 0 .nil, .pl [] 0 .nil, .int .i64 3, .int .i64 114, .str [], .int .i64 1, .pl [] 0 .nil, .pl [] 0 .nil] 2 .exact, .pl [] 0 .nil, .int .i64 5, .int .i64 117, .str [], .int .i64 0, .pl [.int .i64 1, .int .i64 117, .str [103], .int .i64 0, .pl [] 0 .nil, .pl [] 0 .nil, .int .i64 4, .int .i64 119, .str [], .int .i64 1, .pl [] 0 .nil, .pl [] 0 .nil] 2 .exact, .pl [] 0 .nil] 2 .no, .pl [] 0 .nil] 1 .exact, .pl [] 0 .nil] 1 .no
def r6 : AV := .tup [.pl [] 0 .nil, .int .i64 8]
def s7 : AV := .str [108, 101, 116, 32, 102, 32, 61, 32, 99, 97, 115, 101, 32, 78, 105, 108, 32, 111, 102, 32, 123, 78, 111, 110, 101, 32, 45, 62, 32, 49, 125, 59]
def b7 : AV := .pl [.str [102], .int .i64 105, .int .i64 10, .int .i64 109, .str [], .int .i64 0, .pl [.int .i64 2, .int .i64 114, .str [78, 105, 108], .int .i64 0, .pl [] 0 .nil, .pl [] 0 .nil] 1 .exact, .pl [.int .i64 122, .str [78, 111, 110, 101], .pl [] 0 .nil, .int .i64 3, .int .i64 130, .str [], .int .i64 1, .pl [] 0 .nil, .pl [] 0 .nil] 1 .no] 1 .no
def r7 : AV := .tup [.pl [] 0 .nil, .int .i64 8]
def s8 : AV := .str [108, 101, 116, 32, 102, 32, 61, 32, 99, 97, 115, 101, 32, 78, 105, 108, 32, 111, 102, 32, 123, 78, 105, 108, 32, 45, 62, 32, 49, 59, 32, 67, 111, 110, 115, 32, 97, 32, 98, 32, 45, 62, 32, 98, 125, 59]
def b8 : AV := .pl [.str [102], .int .i64 105, .int .i64 10, .int .i64 109, .str [], .int .i64 0, .pl [.int .i64 2, .int .i64 114, .str [78, 105, 108], .int .i64 0, .pl [] 0 .nil, .pl [] 0 .nil] 1 .exact, .pl [.int .i64 122, .str [78, 105, 108], .pl [] 0 .nil, .int .i64 3, .int .i64 129, .str [], .int .i64 1, .pl [] 0 .nil, .pl [] 0 .nil, .int .i64 132, .str [67, 111, 110, 115], .pl [.str [97], .str [98]] 2 .no, .int .i64 1, .int .i64 144, .str [98], .int .i64 0, .pl [] 0 .nil, .pl [] 0 .nil] 2 .no] 1 .no
def r8 : AV := .tup [.pl [] 0 .nil, .int .i64 8]
def s9 : AV := .str [108, 101, 116, 32, 102, 32, 61, 32, 67, 111, 110, 115, 32, 49, 32, 40, 67, 111, 110, 115, 32, 116, 114, 117, 101, 32, 78, 105, 108, 41, 59]
def b9 : AV := .pl [.str [102], .int .i64 105, .int .i64 5, .int .i64 109, .str [], .int .i64 0, .pl [.int .i64 5, .int .i64 109, .str [], .int .i64 0, .pl [.int .i64 2, .int .i64 109, .str [67, 111, 110, 115], .int .i64 0, .pl [] 0 .nil, .pl [] 0 .nil, .int .i64 3, .int .i64 114, .str [], .int .i64 1, .pl [] 0 .nil, .pl [] 0 .nil] 2 .exact, .pl [] 0 .nil, .int .i64 5, .int .i64 117, .str [], .int .i64 0, .pl [.int .i64 5, .int .i64 117, .str [], .int .i64 0, .pl [.int .i64 2, .int .i64 117, .str [67, 111, 110, 115], .int .i64 0, .pl [] 0 .nil, .pl [] 0 .nil, .int .i64 4, .int .i64 122, .str [], .int .i64 1, .pl [] 0 .nil, .pl [] 0 .nil] 2 .exact, .pl [] 0 .nil, .int .i64 2, .int .i64 127, .str [78, 105, 108], .int .i64 0, .pl [] 0 .nil, .pl [] 0 .nil] 2 .exact, .pl [] 0 .nil] 2 .exact, .pl [] 0 .nil] 1 .no
def r9 : AV := .tup [.pl [] 0 .nil, .int .i64 8]
def s10 : AV := .str [108, 101, 116, 32, 102, 32, 61, 32, 92, 103, 32, 45, 62, 32, 108, 101, 116, 32, 104, 32, 61, 32, 103, 32, 105, 110, 32, 40, 104, 32, 49, 44, 32, 104, 32, 116, 114, 117, 101, 41, 59]
def b10 : AV := .pl [.str [102], .int .i64 105, .int .i64 6, .int .i64 109, .str [103], .int .i64 0, .pl [.int .i64 7, .int .i64 115, .str [104], .int .i64 0, .pl [.int .i64 1, .int .i64 123, .str [103], .int .i64 0, .pl [] 0 .nil, .pl [] 0 .nil, .int .i64 8, .int .i64 128, .str [], .int .i64 0, .pl [.int .i64 5, .int .i64 129, .str [], .int .i64 0, .pl [.int .i64 1, .int .i64 129, .str [104], .int .i64 0, .pl [] 0 .nil, .pl [] 0 .nil, .int .i64 3, .int .i64 131, .str [], .int .i64 1, .pl [] 0 .nil, .pl [] 0 .nil] 2 .exact, .pl [] 0 .nil, .int .i64 5, .int .i64 134, .str [], .int .i64 0, .pl [.int .i64 1, .int .i64 134, .str [104], .int .i64 0, .pl [] 0 .nil, .pl [] 0 .nil, .int .i64 4, .int .i64 136, .str [], .int .i64 1, .pl [] 0 .nil, .pl [] 0 .nil] 2 .exact, .pl [] 0 .nil] 2 .no, .pl [] 0 .nil] 2 .exact, .pl [] 0 .nil] 1 .exact, .pl [] 0 .nil] 1 .no
def r10 : AV := .tup [.pl [] 0 .nil, .int .i64 8]
def s11 : AV := .str [108, 101, 116, 32, 102, 32, 120, 32, 61, 32, 102, 59]
def b11 : AV := .pl [.str [102], .int .i64 105, .int .i64 6, .int .i64 105, .str [120], .int .i64 0, .pl [.int .i64 1, .int .i64 111, .str [102], .int .i64 0, .pl [] 0 .nil, .pl [] 0 .nil] 1 .exact, .pl [] 0 .nil] 1 .no
def r11 : AV := .tup [.pl [] 0 .nil, .int .i64 8]
def s12 : AV := .str [108, 101, 116, 32, 102, 32, 61, 32, 40, 49, 44, 32, 50, 41, 32, 51, 59]
def b12 : AV := .pl [.str [102], .int .i64 105, .int .i64 5, .int .i64 109, .str [], .int .i64 0, .pl [.int .i64 8, .int .i64 109, .str [], .int .i64 0, .pl [.int .i64 3, .int .i64 110, .str [], .int .i64 1, .pl [] 0 .nil, .pl [] 0 .nil, .int .i64 3, .int .i64 113, .str [], .int .i64 2, .pl [] 0 .nil, .pl [] 0 .nil] 2 .no, .pl [] 0 .nil, .int .i64 3, .int .i64 116, .str [], .int .i64 3, .pl [] 0 .nil, .pl [] 0 .nil] 2 .exact, .pl [] 0 .nil] 1 .no
def r12 : AV := .tup [.pl [] 0 .nil, .int .i64 8]
def s13 : AV := .str [108, 101, 116, 32, 102, 32, 61, 32, 79, 100, 100, 32, 49, 59]
def b13 : AV := .pl [.str [102], .int .i64 105, .int .i64 5, .int .i64 109, .str [], .int .i64 0, .pl [.int .i64 2, .int .i64 109, .str [79, 100, 100], .int .i64 0, .pl [] 0 .nil, .pl [] 0 .nil, .int .i64 3, .int .i64 113, .str [], .int .i64 1, .pl [] 0 .nil, .pl [] 0 .nil] 2 .exact, .pl [] 0 .nil] 1 .no
def r13 : AV := .tup [.pl [] 0 .nil, .int .i64 8]
def t0 : AV := .agg [.int .i64 2, .int .i64 0, .str [45, 62], .pl [.int .i64 1, .int .i64 0, .str [], .pl [] 0 .nil, .int .i64 1, .int .i64 0, .str [], .pl [] 0 .nil] 2 .no]
def x0 : AV := .str [97, 32, 45, 62, 32, 97]
end Go.Am.Infer
