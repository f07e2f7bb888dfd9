/- All functions by their numbers. -/
import Derived.Test.YthobghcnjampjaaAmDc0
namespace Go.Am.DataCons
open Go.Am
def prog : Nat → Option AFunc
  | 9 => some f9
  | 23 => some f23
  | 24 => some f24
  | 25 => some f25
  | 27 => some f27
  | 28 => some f28
  | 51 => some f51
  | 52 => some f52
  | 53 => some f53
  | 54 => some f54
  | 55 => some f55
  | 56 => some f56
  | 57 => some f57
  | 83 => some f83
  | 84 => some f84
  | 85 => some f85
  | 86 => some f86
  | 87 => some f87
  | 88 => some f88
  | 89 => some f89
  | 90 => some f90
  | 107 => some f107
  | 108 => some f108
  | 109 => some f109
  | 110 => some f110
  | 111 => some f111
  | 115 => some f115
  | 116 => some f116
  | 120 => some f120
  | 121 => some f121
  | 122 => some f122
  | 123 => some f123
  | 124 => some f124
  | 125 => some f125
  | 126 => some f126
  | 127 => some f127
  | 128 => some f128
  | 131 => some f131
  | 132 => some f132
  | 133 => some f133
  | 134 => some f134
  | 136 => some f136
  | _ => none
def has : List Nat := [9, 23, 24, 25, 27, 28, 51, 52, 53, 54, 55, 56, 57, 83, 84, 85, 86, 87, 88, 89, 90, 107, 108, 109, 110, 111, 115, 116, 120, 121, 122, 123, 124, 125, 126, 127, 128, 131, 132, 133, 134, 136]
end Go.Am.DataCons
