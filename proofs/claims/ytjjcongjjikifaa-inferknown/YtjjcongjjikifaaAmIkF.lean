/- InferKnown: what the functions that it calls come to, and the law itself. -/
import Derived.Test.YtjjcongjjikifaaAmIkB0
import Derived.Test.YtjjcongjjikifaaAmIkB1
import Derived.Test.YtjjcongjjikifaaAmIkB2
import Derived.Test.YtjjcongjjikifaaAmIkB3
import Derived.Test.YtjjcongjjikifaaAmIkB4
import Derived.Test.YtjjcongjjikifaaAmIkG0
import Derived.Test.YtjjcongjjikifaaAmIkG1
import Derived.Test.YtjjcongjjikifaaAmIkG2
import Derived.KernelRfl
set_option maxRecDepth 100000
set_option linter.unusedVariables false
namespace Go.Am.Infer
open Go.Am
theorem closed : Closed prog := by
  intro g f h
  have hall : (has.all fun g => match prog g with | some f => clCode f.body | none => true) = true := by kernel_rfl
  by_cases hm : g ∈ has
  · have := List.all_eq_true.1 hall g hm
    rw [h] at this; exact this
  · exfalso
    have : prog g = none := by
      unfold prog
      unfold has at hm
      simp only [List.mem_cons, not_or] at hm
      split <;> first | rfl | simp_all
    rw [this] at h; simp at h
theorem clAll : (clA Dd && clA s0 && clA b0 && clA r0 && clA s1 && clA b1 && clA r1 && clA s2 && clA b2 && clA r2 && clA s3 && clA b3 && clA r3 && clA s4 && clA b4 && clA r4 && clA s5 && clA b5 && clA r5 && clA s6 && clA b6 && clA r6 && clA s7 && clA b7 && clA r7 && clA s8 && clA b8 && clA r8 && clA s9 && clA b9 && clA r9 && clA s10 && clA b10 && clA r10 && clA s11 && clA b11 && clA r11 && clA s12 && clA b12 && clA r12 && clA s13 && clA b13 && clA r13 && clA s14 && clA b14 && clA r14 && clA t0 && clA x0 && clA t1 && clA x1 && clA t2 && clA x2 && clA t3 && clA x3 && clA t4 && clA x4 && clA t5 && clA x5 && clA t6 && clA x6 && clA t7 && clA x7 && clA t8 && clA x8 && clA t9 && clA x9 && clA t10 && clA x10 && clA t11 && clA x11 && clA t12 && clA x12) = true := by kernel_rfl
theorem evB0 : Ev prog 300 15 [s0] (.agg [Dd, b0]) := Ev.leaf closed (by kernel_rfl) (by kernel_rfl) binds0
theorem evG0 : Ev prog 300 16 [.pl [] 0 .nil, Dd, b0] r0 := Ev.leaf closed (by kernel_rfl) (by kernel_rfl) g0_
theorem evB1 : Ev prog 300 15 [s1] (.agg [Dd, b1]) := Ev.leaf closed (by kernel_rfl) (by kernel_rfl) binds1
theorem evG1 : Ev prog 300 16 [.pl [] 0 .nil, Dd, b1] r1 := Ev.leaf closed (by kernel_rfl) (by kernel_rfl) g1_
theorem evB2 : Ev prog 300 15 [s2] (.agg [Dd, b2]) := Ev.leaf closed (by kernel_rfl) (by kernel_rfl) binds2
theorem evG2 : Ev prog 300 16 [.pl [] 0 .nil, Dd, b2] r2 := Ev.leaf closed (by kernel_rfl) (by kernel_rfl) g2_
theorem evB3 : Ev prog 300 15 [s3] (.agg [Dd, b3]) := Ev.leaf closed (by kernel_rfl) (by kernel_rfl) binds3
theorem evG3 : Ev prog 300 16 [.pl [] 0 .nil, Dd, b3] r3 := Ev.leaf closed (by kernel_rfl) (by kernel_rfl) g3_
theorem evB4 : Ev prog 300 15 [s4] (.agg [Dd, b4]) := Ev.leaf closed (by kernel_rfl) (by kernel_rfl) binds4
theorem evG4 : Ev prog 300 16 [.pl [] 0 .nil, Dd, b4] r4 := Ev.leaf closed (by kernel_rfl) (by kernel_rfl) g4_
theorem evB5 : Ev prog 300 15 [s5] (.agg [Dd, b5]) := Ev.leaf closed (by kernel_rfl) (by kernel_rfl) binds5
theorem evG5 : Ev prog 300 16 [.pl [] 0 .nil, Dd, b5] r5 := Ev.leaf closed (by kernel_rfl) (by kernel_rfl) g5_
theorem evB6 : Ev prog 300 15 [s6] (.agg [Dd, b6]) := Ev.leaf closed (by kernel_rfl) (by kernel_rfl) binds6
theorem evG6 : Ev prog 300 16 [.pl [] 0 .nil, Dd, b6] r6 := Ev.leaf closed (by kernel_rfl) (by kernel_rfl) g6_
theorem evB7 : Ev prog 300 15 [s7] (.agg [Dd, b7]) := Ev.leaf closed (by kernel_rfl) (by kernel_rfl) binds7
theorem evG7 : Ev prog 300 16 [.pl [] 0 .nil, Dd, b7] r7 := Ev.leaf closed (by kernel_rfl) (by kernel_rfl) g7_
theorem evB8 : Ev prog 300 15 [s8] (.agg [Dd, b8]) := Ev.leaf closed (by kernel_rfl) (by kernel_rfl) binds8
theorem evG8 : Ev prog 300 16 [.pl [] 0 .nil, Dd, b8] r8 := Ev.leaf closed (by kernel_rfl) (by kernel_rfl) g8_
theorem evB9 : Ev prog 300 15 [s9] (.agg [Dd, b9]) := Ev.leaf closed (by kernel_rfl) (by kernel_rfl) binds9
theorem evG9 : Ev prog 300 16 [.pl [] 0 .nil, Dd, b9] r9 := Ev.leaf closed (by kernel_rfl) (by kernel_rfl) g9_
theorem evB10 : Ev prog 300 15 [s10] (.agg [Dd, b10]) := Ev.leaf closed (by kernel_rfl) (by kernel_rfl) binds10
theorem evG10 : Ev prog 300 16 [.pl [] 0 .nil, Dd, b10] r10 := Ev.leaf closed (by kernel_rfl) (by kernel_rfl) g10_
theorem evB11 : Ev prog 300 15 [s11] (.agg [Dd, b11]) := Ev.leaf closed (by kernel_rfl) (by kernel_rfl) binds11
theorem evG11 : Ev prog 300 16 [.pl [] 0 .nil, Dd, b11] r11 := Ev.leaf closed (by kernel_rfl) (by kernel_rfl) g11_
theorem evB12 : Ev prog 300 15 [s12] (.agg [Dd, b12]) := Ev.leaf closed (by kernel_rfl) (by kernel_rfl) binds12
theorem evG12 : Ev prog 300 16 [.pl [] 0 .nil, Dd, b12] r12 := Ev.leaf closed (by kernel_rfl) (by kernel_rfl) g12_
theorem evB13 : Ev prog 300 15 [s13] (.agg [Dd, b13]) := Ev.leaf closed (by kernel_rfl) (by kernel_rfl) binds13
theorem evG13 : Ev prog 300 16 [.pl [] 0 .nil, Dd, b13] r13 := Ev.leaf closed (by kernel_rfl) (by kernel_rfl) g13_
theorem evB14 : Ev prog 300 15 [s14] (.agg [Dd, b14]) := Ev.leaf closed (by kernel_rfl) (by kernel_rfl) binds14
theorem evG14 : Ev prog 300 16 [.pl [] 0 .nil, Dd, b14] r14 := Ev.leaf closed (by kernel_rfl) (by kernel_rfl) g14_
theorem evT0 : Ev prog 300 18 [t0] x0 := Ev.leaf closed (by kernel_rfl) (by kernel_rfl) (fun om => by kernel_rfl)
theorem evT1 : Ev prog 300 18 [t1] x1 := Ev.leaf closed (by kernel_rfl) (by kernel_rfl) (fun om => by kernel_rfl)
theorem evT2 : Ev prog 300 18 [t2] x2 := Ev.leaf closed (by kernel_rfl) (by kernel_rfl) (fun om => by kernel_rfl)
theorem evT3 : Ev prog 300 18 [t3] x3 := Ev.leaf closed (by kernel_rfl) (by kernel_rfl) (fun om => by kernel_rfl)
theorem evT4 : Ev prog 300 18 [t4] x4 := Ev.leaf closed (by kernel_rfl) (by kernel_rfl) (fun om => by kernel_rfl)
theorem evT5 : Ev prog 300 18 [t5] x5 := Ev.leaf closed (by kernel_rfl) (by kernel_rfl) (fun om => by kernel_rfl)
theorem evT6 : Ev prog 300 18 [t6] x6 := Ev.leaf closed (by kernel_rfl) (by kernel_rfl) (fun om => by kernel_rfl)
theorem evT7 : Ev prog 300 18 [t7] x7 := Ev.leaf closed (by kernel_rfl) (by kernel_rfl) (fun om => by kernel_rfl)
theorem evT8 : Ev prog 300 18 [t8] x8 := Ev.leaf closed (by kernel_rfl) (by kernel_rfl) (fun om => by kernel_rfl)
theorem evT9 : Ev prog 300 18 [t9] x9 := Ev.leaf closed (by kernel_rfl) (by kernel_rfl) (fun om => by kernel_rfl)
theorem evT10 : Ev prog 300 18 [t10] x10 := Ev.leaf closed (by kernel_rfl) (by kernel_rfl) (fun om => by kernel_rfl)
theorem evT11 : Ev prog 300 18 [t11] x11 := Ev.leaf closed (by kernel_rfl) (by kernel_rfl) (fun om => by kernel_rfl)
theorem evT12 : Ev prog 300 18 [t12] x12 := Ev.leaf closed (by kernel_rfl) (by kernel_rfl) (fun om => by kernel_rfl)
theorem evN0 : Ev prog 300 17 [.int .i64 0] (.int .i64 0) := Ev.leaf closed (by kernel_rfl) (by kernel_rfl) (fun om => by kernel_rfl)
theorem evN1 : Ev prog 300 17 [.int .i64 8] (.int .i64 8) := Ev.leaf closed (by kernel_rfl) (by kernel_rfl) (fun om => by kernel_rfl)
theorem one0 : Ev prog 301 10 [s0] (x0) := Ev.node (f := f10) rfl (tab := [(15, [s0], .agg [Dd, b0]), (16, [.pl [] 0 .nil, Dd, b0], r0), (17, [.int .i64 0], .int .i64 0), (17, [.int .i64 8], .int .i64 8), (18, [t0], x0)]) (TabOK.cons evB0 (TabOK.cons evG0 (TabOK.cons evN0 (TabOK.cons evN1 (TabOK.cons evT0 (TabOK.nil _ _)))))) (by kernel_rfl) rfl rfl (by kernel_rfl)
theorem one1 : Ev prog 301 10 [s1] (.str []) := Ev.node (f := f10) rfl (tab := [(15, [s1], .agg [Dd, b1]), (16, [.pl [] 0 .nil, Dd, b1], r1), (17, [.int .i64 0], .int .i64 0), (17, [.int .i64 8], .int .i64 8)]) (TabOK.cons evB1 (TabOK.cons evG1 (TabOK.cons evN0 (TabOK.cons evN1 (TabOK.nil _ _))))) (by kernel_rfl) rfl rfl (by kernel_rfl)
theorem one2 : Ev prog 301 10 [s2] (x1) := Ev.node (f := f10) rfl (tab := [(15, [s2], .agg [Dd, b2]), (16, [.pl [] 0 .nil, Dd, b2], r2), (17, [.int .i64 0], .int .i64 0), (17, [.int .i64 8], .int .i64 8), (18, [t1], x1)]) (TabOK.cons evB2 (TabOK.cons evG2 (TabOK.cons evN0 (TabOK.cons evN1 (TabOK.cons evT1 (TabOK.nil _ _)))))) (by kernel_rfl) rfl rfl (by kernel_rfl)
theorem one3 : Ev prog 301 10 [s3] (x2) := Ev.node (f := f10) rfl (tab := [(15, [s3], .agg [Dd, b3]), (16, [.pl [] 0 .nil, Dd, b3], r3), (17, [.int .i64 0], .int .i64 0), (17, [.int .i64 8], .int .i64 8), (18, [t2], x2)]) (TabOK.cons evB3 (TabOK.cons evG3 (TabOK.cons evN0 (TabOK.cons evN1 (TabOK.cons evT2 (TabOK.nil _ _)))))) (by kernel_rfl) rfl rfl (by kernel_rfl)
theorem one4 : Ev prog 301 10 [s4] (x3) := Ev.node (f := f10) rfl (tab := [(15, [s4], .agg [Dd, b4]), (16, [.pl [] 0 .nil, Dd, b4], r4), (17, [.int .i64 0], .int .i64 0), (17, [.int .i64 8], .int .i64 8), (18, [t3], x3)]) (TabOK.cons evB4 (TabOK.cons evG4 (TabOK.cons evN0 (TabOK.cons evN1 (TabOK.cons evT3 (TabOK.nil _ _)))))) (by kernel_rfl) rfl rfl (by kernel_rfl)
theorem one5 : Ev prog 301 10 [s5] (x4) := Ev.node (f := f10) rfl (tab := [(15, [s5], .agg [Dd, b5]), (16, [.pl [] 0 .nil, Dd, b5], r5), (17, [.int .i64 0], .int .i64 0), (17, [.int .i64 8], .int .i64 8), (18, [t4], x4)]) (TabOK.cons evB5 (TabOK.cons evG5 (TabOK.cons evN0 (TabOK.cons evN1 (TabOK.cons evT4 (TabOK.nil _ _)))))) (by kernel_rfl) rfl rfl (by kernel_rfl)
theorem one6 : Ev prog 301 10 [s6] (x5) := Ev.node (f := f10) rfl (tab := [(15, [s6], .agg [Dd, b6]), (16, [.pl [] 0 .nil, Dd, b6], r6), (17, [.int .i64 0], .int .i64 0), (17, [.int .i64 8], .int .i64 8), (18, [t5], x5)]) (TabOK.cons evB6 (TabOK.cons evG6 (TabOK.cons evN0 (TabOK.cons evN1 (TabOK.cons evT5 (TabOK.nil _ _)))))) (by kernel_rfl) rfl rfl (by kernel_rfl)
theorem one7 : Ev prog 301 10 [s7] (x6) := Ev.node (f := f10) rfl (tab := [(15, [s7], .agg [Dd, b7]), (16, [.pl [] 0 .nil, Dd, b7], r7), (17, [.int .i64 0], .int .i64 0), (17, [.int .i64 8], .int .i64 8), (18, [t6], x6)]) (TabOK.cons evB7 (TabOK.cons evG7 (TabOK.cons evN0 (TabOK.cons evN1 (TabOK.cons evT6 (TabOK.nil _ _)))))) (by kernel_rfl) rfl rfl (by kernel_rfl)
theorem one8 : Ev prog 301 10 [s8] (x7) := Ev.node (f := f10) rfl (tab := [(15, [s8], .agg [Dd, b8]), (16, [.pl [] 0 .nil, Dd, b8], r8), (17, [.int .i64 0], .int .i64 0), (17, [.int .i64 8], .int .i64 8), (18, [t7], x7)]) (TabOK.cons evB8 (TabOK.cons evG8 (TabOK.cons evN0 (TabOK.cons evN1 (TabOK.cons evT7 (TabOK.nil _ _)))))) (by kernel_rfl) rfl rfl (by kernel_rfl)
theorem one9 : Ev prog 301 10 [s9] (x8) := Ev.node (f := f10) rfl (tab := [(15, [s9], .agg [Dd, b9]), (16, [.pl [] 0 .nil, Dd, b9], r9), (17, [.int .i64 0], .int .i64 0), (17, [.int .i64 8], .int .i64 8), (18, [t8], x8)]) (TabOK.cons evB9 (TabOK.cons evG9 (TabOK.cons evN0 (TabOK.cons evN1 (TabOK.cons evT8 (TabOK.nil _ _)))))) (by kernel_rfl) rfl rfl (by kernel_rfl)
theorem one10 : Ev prog 301 10 [s10] (x9) := Ev.node (f := f10) rfl (tab := [(15, [s10], .agg [Dd, b10]), (16, [.pl [] 0 .nil, Dd, b10], r10), (17, [.int .i64 0], .int .i64 0), (17, [.int .i64 8], .int .i64 8), (18, [t9], x9)]) (TabOK.cons evB10 (TabOK.cons evG10 (TabOK.cons evN0 (TabOK.cons evN1 (TabOK.cons evT9 (TabOK.nil _ _)))))) (by kernel_rfl) rfl rfl (by kernel_rfl)
theorem one11 : Ev prog 301 10 [s11] (x10) := Ev.node (f := f10) rfl (tab := [(15, [s11], .agg [Dd, b11]), (16, [.pl [] 0 .nil, Dd, b11], r11), (17, [.int .i64 0], .int .i64 0), (17, [.int .i64 8], .int .i64 8), (18, [t10], x10)]) (TabOK.cons evB11 (TabOK.cons evG11 (TabOK.cons evN0 (TabOK.cons evN1 (TabOK.cons evT10 (TabOK.nil _ _)))))) (by kernel_rfl) rfl rfl (by kernel_rfl)
theorem one12 : Ev prog 301 10 [s12] (x11) := Ev.node (f := f10) rfl (tab := [(15, [s12], .agg [Dd, b12]), (16, [.pl [] 0 .nil, Dd, b12], r12), (17, [.int .i64 0], .int .i64 0), (17, [.int .i64 8], .int .i64 8), (18, [t11], x11)]) (TabOK.cons evB12 (TabOK.cons evG12 (TabOK.cons evN0 (TabOK.cons evN1 (TabOK.cons evT11 (TabOK.nil _ _)))))) (by kernel_rfl) rfl rfl (by kernel_rfl)
theorem one13 : Ev prog 301 10 [s13] (x12) := Ev.node (f := f10) rfl (tab := [(15, [s13], .agg [Dd, b13]), (16, [.pl [] 0 .nil, Dd, b13], r13), (17, [.int .i64 0], .int .i64 0), (17, [.int .i64 8], .int .i64 8), (18, [t12], x12)]) (TabOK.cons evB13 (TabOK.cons evG13 (TabOK.cons evN0 (TabOK.cons evN1 (TabOK.cons evT12 (TabOK.nil _ _)))))) (by kernel_rfl) rfl rfl (by kernel_rfl)
theorem one14 : Ev prog 301 10 [s14] (x9) := Ev.node (f := f10) rfl (tab := [(15, [s14], .agg [Dd, b14]), (16, [.pl [] 0 .nil, Dd, b14], r14), (17, [.int .i64 0], .int .i64 0), (17, [.int .i64 8], .int .i64 8), (18, [t9], x9)]) (TabOK.cons evB14 (TabOK.cons evG14 (TabOK.cons evN0 (TabOK.cons evN1 (TabOK.cons evT9 (TabOK.nil _ _)))))) (by kernel_rfl) rfl rfl (by kernel_rfl)
theorem awake : Ev prog 302 11 [] (.bool true) := Ev.node (f := f11) rfl (tab := [(10, [s0], x0), (10, [s1], .str [])]) (TabOK.cons one0 (TabOK.cons one1 (TabOK.nil _ _))) (by kernel_rfl) rfl rfl (by kernel_rfl)
def tabL : Tab := [(11, [], .bool true), (10, [s2], x1), (10, [s3], x2), (10, [s4], x3), (10, [s5], x4), (10, [s6], x5), (10, [s7], x6), (10, [s8], x7), (10, [s9], x8), (10, [s10], x9), (10, [s11], x10), (10, [s12], x11), (10, [s13], x12), (10, [s14], x9)]
theorem tabOK : TabOK prog 302 tabL := TabOK.cons awake (TabOK.cons (one2.mono (by omega)) (TabOK.cons (one3.mono (by omega)) (TabOK.cons (one4.mono (by omega)) (TabOK.cons (one5.mono (by omega)) (TabOK.cons (one6.mono (by omega)) (TabOK.cons (one7.mono (by omega)) (TabOK.cons (one8.mono (by omega)) (TabOK.cons (one9.mono (by omega)) (TabOK.cons (one10.mono (by omega)) (TabOK.cons (one11.mono (by omega)) (TabOK.cons (one12.mono (by omega)) (TabOK.cons (one13.mono (by omega)) (TabOK.cons (one14.mono (by omega)) (TabOK.nil _ _))))))))))))))
theorem hfL : hfCode f3.body = true := by kernel_rfl
def yes : Option AV → Bool
  | some (.bool true) => true
  | _ => false
theorem nodes0 : ((List.range 64).all fun i => yes (nodeX tabL 302 f3 [.int .u8 (Int.ofNat (0 + i))])) = true := by kernel_rfl
theorem nodes1 : ((List.range 64).all fun i => yes (nodeX tabL 302 f3 [.int .u8 (Int.ofNat (64 + i))])) = true := by kernel_rfl
theorem nodes2 : ((List.range 64).all fun i => yes (nodeX tabL 302 f3 [.int .u8 (Int.ofNat (128 + i))])) = true := by kernel_rfl
theorem nodes3 : ((List.range 64).all fun i => yes (nodeX tabL 302 f3 [.int .u8 (Int.ofNat (192 + i))])) = true := by kernel_rfl
theorem nodes : ∀ i, i < 256 → yes (nodeX tabL 302 f3 [.int .u8 (Int.ofNat i)]) = true := by
  intro i hi
  by_cases h0 : i < 64
  · have := List.all_eq_true.1 nodes0 (i - 0) (by simp only [List.mem_range]; omega)
    have e : 0 + (i - 0) = i := by omega
    rw [e] at this; exact this
  by_cases h1 : i < 128
  · have := List.all_eq_true.1 nodes1 (i - 64) (by simp only [List.mem_range]; omega)
    have e : 64 + (i - 64) = i := by omega
    rw [e] at this; exact this
  by_cases h2 : i < 192
  · have := List.all_eq_true.1 nodes2 (i - 128) (by simp only [List.mem_range]; omega)
    have e : 128 + (i - 128) = i := by omega
    rw [e] at this; exact this
  have := List.all_eq_true.1 nodes3 (i - 192) (by simp only [List.mem_range]; omega)
  have e : 192 + (i - 192) = i := by omega
  rw [e] at this; exact this
theorem yes_inv {r : Option AV} (h : yes r = true) : r = some (.bool true) := by
  unfold yes at h
  split at h
  · rfl
  · simp at h
theorem run (a : Int) (a0 : 0 ≤ a) (a1 : a ≤ 255) (om : List Nat) : ∃ h' om', callN prog 303 3 [.int .u8 a] Heap.empty om = some (.bool true, h', om') := by
  obtain ⟨i, hi, rfl⟩ : ∃ i : Nat, i < 256 ∧ a = Int.ofNat i := ⟨a.toNat, by omega, by rw [Int.ofNat_eq_natCast]; omega⟩
  exact (Ev.node (f := f3) rfl tabOK hfL rfl rfl (yes_inv (nodes i hi))).run om
end Go.Am.Infer
