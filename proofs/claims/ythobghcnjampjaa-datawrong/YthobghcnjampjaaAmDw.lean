/- All functions by their numbers. -/
import Derived.Test.YthobghcnjampjaaAmDw0
import Derived.Test.YthobghcnjampjaaAmDw1
namespace Go.Am.DataWrong
open Go.Am
def prog : Nat → Option AFunc
  | 7 => some f7
  | 12 => some f12
  | 23 => some f23
  | 24 => some f24
  | 25 => some f25
  | 32 => some f32
  | 33 => some f33
  | 34 => some f34
  | 35 => some f35
  | 36 => some f36
  | 37 => some f37
  | 38 => some f38
  | 39 => some f39
  | 40 => some f40
  | 41 => some f41
  | 50 => some f50
  | 51 => some f51
  | 52 => some f52
  | 53 => some f53
  | 54 => some f54
  | 62 => some f62
  | 63 => some f63
  | 64 => some f64
  | 65 => some f65
  | 66 => some f66
  | 67 => some f67
  | 68 => some f68
  | 69 => some f69
  | 70 => some f70
  | 71 => some f71
  | 72 => some f72
  | 73 => some f73
  | 74 => some f74
  | 75 => some f75
  | 76 => some f76
  | 77 => some f77
  | 83 => some f83
  | 84 => some f84
  | 85 => some f85
  | 86 => some f86
  | 87 => some f87
  | 88 => some f88
  | 89 => some f89
  | 96 => some f96
  | 97 => some f97
  | 107 => some f107
  | 108 => some f108
  | 109 => some f109
  | 110 => some f110
  | 111 => some f111
  | 115 => some f115
  | 116 => some f116
  | 120 => some f120
  | 121 => some f121
  | 122 => some f122
  | 123 => some f123
  | 124 => some f124
  | 125 => some f125
  | 126 => some f126
  | 127 => some f127
  | 128 => some f128
  | 131 => some f131
  | 132 => some f132
  | 133 => some f133
  | 134 => some f134
  | 136 => some f136
  | _ => none
def has : List Nat := [7, 12, 23, 24, 25, 32, 33, 34, 35, 36, 37, 38, 39, 40, 41, 50, 51, 52, 53, 54, 62, 63, 64, 65, 66, 67, 68, 69, 70, 71, 72, 73, 74, 75, 76, 77, 83, 84, 85, 86, 87, 88, 89, 96, 97, 107, 108, 109, 110, 111, 115, 116, 120, 121, 122, 123, 124, 125, 126, 127, 128, 131, 132, 133, 134, 136]
end Go.Am.DataWrong
