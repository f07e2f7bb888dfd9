/- InferOrder: what the functions that it calls come to, and the law itself. -/
import Derived.Test.YtjjcongjjikifaaAmIoB0
import Derived.Test.YtjjcongjjikifaaAmIoB1
import Derived.Test.YtjjcongjjikifaaAmIoB2
import Derived.Test.YtjjcongjjikifaaAmIoG0
import Derived.Test.YtjjcongjjikifaaAmIoG1
import Derived.KernelRfl
set_option maxRecDepth 100000
set_option linter.unusedVariables false
namespace Go.Am.Infer
open Go.Am
theorem closed : Closed prog := by
  intro g f h
  have hall : (has.all fun g => match prog g with | some f => clCode f.body | none => true) = true := by kernel_rfl
  by_cases hm : g ∈ has
  · have := List.all_eq_true.1 hall g hm
    rw [h] at this; exact this
  · exfalso
    have : prog g = none := by
      unfold prog
      unfold has at hm
      simp only [List.mem_cons, not_or] at hm
      split <;> first | rfl | simp_all
    rw [this] at h; simp at h
theorem clAll : (clA Dd && clA s0 && clA b0 && clA r0 && clA s1 && clA b1 && clA r1 && clA s2 && clA b2 && clA r2 && clA s3 && clA b3 && clA r3 && clA s4 && clA b4 && clA r4 && clA s5 && clA b5 && clA r5 && clA s6 && clA b6 && clA r6 && clA t0 && clA x0 && clA t1 && clA x1 && clA t2 && clA x2 && clA t3 && clA x3) = true := by kernel_rfl
theorem evB0 : Ev prog 300 15 [s0] (.agg [Dd, b0]) := Ev.leaf closed (by kernel_rfl) (by kernel_rfl) binds0
theorem evG0 : Ev prog 300 16 [.pl [] 0 .nil, Dd, b0] r0 := Ev.leaf closed (by kernel_rfl) (by kernel_rfl) g0_
theorem evB1 : Ev prog 300 15 [s1] (.agg [Dd, b1]) := Ev.leaf closed (by kernel_rfl) (by kernel_rfl) binds1
theorem evG1 : Ev prog 300 16 [.pl [] 0 .nil, Dd, b1] r1 := Ev.leaf closed (by kernel_rfl) (by kernel_rfl) g1_
theorem evB2 : Ev prog 300 15 [s2] (.agg [Dd, b2]) := Ev.leaf closed (by kernel_rfl) (by kernel_rfl) binds2
theorem evG2 : Ev prog 300 16 [.pl [] 0 .nil, Dd, b2] r2 := Ev.leaf closed (by kernel_rfl) (by kernel_rfl) g2_
theorem evB3 : Ev prog 300 15 [s3] (.agg [Dd, b3]) := Ev.leaf closed (by kernel_rfl) (by kernel_rfl) binds3
theorem evG3 : Ev prog 300 16 [.pl [] 0 .nil, Dd, b3] r3 := Ev.leaf closed (by kernel_rfl) (by kernel_rfl) g3_
theorem evB4 : Ev prog 300 15 [s4] (.agg [Dd, b4]) := Ev.leaf closed (by kernel_rfl) (by kernel_rfl) binds4
theorem evG4 : Ev prog 300 16 [.pl [] 0 .nil, Dd, b4] r4 := Ev.leaf closed (by kernel_rfl) (by kernel_rfl) g4_
theorem evB5 : Ev prog 300 15 [s5] (.agg [Dd, b5]) := Ev.leaf closed (by kernel_rfl) (by kernel_rfl) binds5
theorem evG5 : Ev prog 300 16 [.pl [] 0 .nil, Dd, b5] r5 := Ev.leaf closed (by kernel_rfl) (by kernel_rfl) g5_
theorem evB6 : Ev prog 300 15 [s6] (.agg [Dd, b6]) := Ev.leaf closed (by kernel_rfl) (by kernel_rfl) binds6
theorem evG6 : Ev prog 300 16 [.pl [] 0 .nil, Dd, b6] r6 := Ev.leaf closed (by kernel_rfl) (by kernel_rfl) g6_
theorem evT0 : Ev prog 300 18 [t0] x0 := Ev.leaf closed (by kernel_rfl) (by kernel_rfl) (fun om => by kernel_rfl)
theorem evT1 : Ev prog 300 18 [t1] x1 := Ev.leaf closed (by kernel_rfl) (by kernel_rfl) (fun om => by kernel_rfl)
theorem evT2 : Ev prog 300 18 [t2] x2 := Ev.leaf closed (by kernel_rfl) (by kernel_rfl) (fun om => by kernel_rfl)
theorem evT3 : Ev prog 300 18 [t3] x3 := Ev.leaf closed (by kernel_rfl) (by kernel_rfl) (fun om => by kernel_rfl)
theorem evN0 : Ev prog 300 17 [.int .i64 0] (.int .i64 0) := Ev.leaf closed (by kernel_rfl) (by kernel_rfl) (fun om => by kernel_rfl)
theorem evN1 : Ev prog 300 17 [.int .i64 8] (.int .i64 8) := Ev.leaf closed (by kernel_rfl) (by kernel_rfl) (fun om => by kernel_rfl)
theorem one0 : Ev prog 301 10 [s0] (x0) := Ev.node (f := f10) rfl (tab := [(15, [s0], .agg [Dd, b0]), (16, [.pl [] 0 .nil, Dd, b0], r0), (17, [.int .i64 0], .int .i64 0), (17, [.int .i64 8], .int .i64 8), (18, [t0], x0)]) (TabOK.cons evB0 (TabOK.cons evG0 (TabOK.cons evN0 (TabOK.cons evN1 (TabOK.cons evT0 (TabOK.nil _ _)))))) (by kernel_rfl) rfl rfl (by kernel_rfl)
theorem one1 : Ev prog 301 10 [s1] (.str []) := Ev.node (f := f10) rfl (tab := [(15, [s1], .agg [Dd, b1]), (16, [.pl [] 0 .nil, Dd, b1], r1), (17, [.int .i64 0], .int .i64 0), (17, [.int .i64 8], .int .i64 8)]) (TabOK.cons evB1 (TabOK.cons evG1 (TabOK.cons evN0 (TabOK.cons evN1 (TabOK.nil _ _))))) (by kernel_rfl) rfl rfl (by kernel_rfl)
theorem awake : Ev prog 302 11 [] (.bool true) := Ev.node (f := f11) rfl (tab := [(10, [s0], x0), (10, [s1], .str [])]) (TabOK.cons one0 (TabOK.cons one1 (TabOK.nil _ _))) (by kernel_rfl) rfl rfl (by kernel_rfl)
theorem evS0 : Ev prog 300 19 [.agg [.int .i64 1, .int .i64 2, .int .i64 0, .str [45, 62], .pl [.int .i64 2, .int .i64 0, .str [73, 110, 116], .pl [] 0 .nil, .int .i64 1, .int .i64 0, .str [], .pl [] 0 .nil] 2 .no], .agg [.int .i64 1, .int .i64 2, .int .i64 0, .str [45, 62], .pl [.int .i64 2, .int .i64 0, .str [73, 110, 116], .pl [] 0 .nil, .int .i64 1, .int .i64 0, .str [], .pl [] 0 .nil] 2 .no]] (.bool true) := Ev.leaf closed (by kernel_rfl) (by kernel_rfl) (fun om => by kernel_rfl)
theorem evS1 : Ev prog 300 19 [.agg [.int .i64 1, .int .i64 2, .int .i64 0, .str [44], .pl [.int .i64 1, .int .i64 0, .str [], .pl [] 0 .nil, .int .i64 2, .int .i64 0, .str [73, 110, 116], .pl [] 0 .nil] 2 .no], .agg [.int .i64 1, .int .i64 2, .int .i64 0, .str [44], .pl [.int .i64 1, .int .i64 0, .str [], .pl [] 0 .nil, .int .i64 2, .int .i64 0, .str [73, 110, 116], .pl [] 0 .nil] 2 .no]] (.bool true) := Ev.leaf closed (by kernel_rfl) (by kernel_rfl) (fun om => by kernel_rfl)
theorem evS2 : Ev prog 300 19 [.agg [.int .i64 1, .int .i64 2, .int .i64 0, .str [45, 62], .pl [.int .i64 1, .int .i64 0, .str [], .pl [] 0 .nil, .int .i64 1, .int .i64 0, .str [], .pl [] 0 .nil] 2 .no], .agg [.int .i64 1, .int .i64 2, .int .i64 0, .str [45, 62], .pl [.int .i64 1, .int .i64 0, .str [], .pl [] 0 .nil, .int .i64 1, .int .i64 0, .str [], .pl [] 0 .nil] 2 .no]] (.bool true) := Ev.leaf closed (by kernel_rfl) (by kernel_rfl) (fun om => by kernel_rfl)
theorem evS3 : Ev prog 300 19 [.agg [.int .i64 1, .int .i64 2, .int .i64 0, .str [45, 62], .pl [.int .i64 2, .int .i64 0, .str [73, 110, 116], .pl [] 0 .nil, .int .i64 2, .int .i64 0, .str [45, 62], .pl [.int .i64 2, .int .i64 0, .str [73, 110, 116], .pl [] 0 .nil, .int .i64 1, .int .i64 0, .str [], .pl [] 0 .nil] 2 .no] 2 .no], .agg [.int .i64 1, .int .i64 2, .int .i64 0, .str [45, 62], .pl [.int .i64 2, .int .i64 0, .str [73, 110, 116], .pl [] 0 .nil, .int .i64 2, .int .i64 0, .str [45, 62], .pl [.int .i64 2, .int .i64 0, .str [73, 110, 116], .pl [] 0 .nil, .int .i64 1, .int .i64 0, .str [], .pl [] 0 .nil] 2 .no] 2 .no]] (.bool true) := Ev.leaf closed (by kernel_rfl) (by kernel_rfl) (fun om => by kernel_rfl)
def tabL : Tab := [(11, [], .bool true), (15, [s2], .agg [Dd, b2]), (16, [.pl [] 0 .nil, Dd, b2], r2), (15, [s3], .agg [Dd, b3]), (16, [.pl [] 0 .nil, Dd, b3], r3), (15, [s4], .agg [Dd, b4]), (16, [.pl [] 0 .nil, Dd, b4], r4), (15, [s5], .agg [Dd, b5]), (16, [.pl [] 0 .nil, Dd, b5], r5), (15, [s6], .agg [Dd, b6]), (16, [.pl [] 0 .nil, Dd, b6], r6), (17, [.int .i64 0], .int .i64 0), (17, [.int .i64 8], .int .i64 8), (19, [.agg [.int .i64 1, .int .i64 2, .int .i64 0, .str [45, 62], .pl [.int .i64 2, .int .i64 0, .str [73, 110, 116], .pl [] 0 .nil, .int .i64 1, .int .i64 0, .str [], .pl [] 0 .nil] 2 .no], .agg [.int .i64 1, .int .i64 2, .int .i64 0, .str [45, 62], .pl [.int .i64 2, .int .i64 0, .str [73, 110, 116], .pl [] 0 .nil, .int .i64 1, .int .i64 0, .str [], .pl [] 0 .nil] 2 .no]], .bool true), (19, [.agg [.int .i64 1, .int .i64 2, .int .i64 0, .str [44], .pl [.int .i64 1, .int .i64 0, .str [], .pl [] 0 .nil, .int .i64 2, .int .i64 0, .str [73, 110, 116], .pl [] 0 .nil] 2 .no], .agg [.int .i64 1, .int .i64 2, .int .i64 0, .str [44], .pl [.int .i64 1, .int .i64 0, .str [], .pl [] 0 .nil, .int .i64 2, .int .i64 0, .str [73, 110, 116], .pl [] 0 .nil] 2 .no]], .bool true), (19, [.agg [.int .i64 1, .int .i64 2, .int .i64 0, .str [45, 62], .pl [.int .i64 1, .int .i64 0, .str [], .pl [] 0 .nil, .int .i64 1, .int .i64 0, .str [], .pl [] 0 .nil] 2 .no], .agg [.int .i64 1, .int .i64 2, .int .i64 0, .str [45, 62], .pl [.int .i64 1, .int .i64 0, .str [], .pl [] 0 .nil, .int .i64 1, .int .i64 0, .str [], .pl [] 0 .nil] 2 .no]], .bool true), (19, [.agg [.int .i64 1, .int .i64 2, .int .i64 0, .str [45, 62], .pl [.int .i64 2, .int .i64 0, .str [73, 110, 116], .pl [] 0 .nil, .int .i64 2, .int .i64 0, .str [45, 62], .pl [.int .i64 2, .int .i64 0, .str [73, 110, 116], .pl [] 0 .nil, .int .i64 1, .int .i64 0, .str [], .pl [] 0 .nil] 2 .no] 2 .no], .agg [.int .i64 1, .int .i64 2, .int .i64 0, .str [45, 62], .pl [.int .i64 2, .int .i64 0, .str [73, 110, 116], .pl [] 0 .nil, .int .i64 2, .int .i64 0, .str [45, 62], .pl [.int .i64 2, .int .i64 0, .str [73, 110, 116], .pl [] 0 .nil, .int .i64 1, .int .i64 0, .str [], .pl [] 0 .nil] 2 .no] 2 .no]], .bool true)]
theorem tabOK : TabOK prog 302 tabL := TabOK.cons awake (TabOK.cons (evB2.mono (by omega)) (TabOK.cons (evG2.mono (by omega)) (TabOK.cons (evB3.mono (by omega)) (TabOK.cons (evG3.mono (by omega)) (TabOK.cons (evB4.mono (by omega)) (TabOK.cons (evG4.mono (by omega)) (TabOK.cons (evB5.mono (by omega)) (TabOK.cons (evG5.mono (by omega)) (TabOK.cons (evB6.mono (by omega)) (TabOK.cons (evG6.mono (by omega)) (TabOK.cons (evN0.mono (by omega)) (TabOK.cons (evN1.mono (by omega)) (TabOK.cons (evS0.mono (by omega)) (TabOK.cons (evS1.mono (by omega)) (TabOK.cons (evS2.mono (by omega)) (TabOK.cons (evS3.mono (by omega)) (TabOK.nil _ _)))))))))))))))))
theorem hfL : hfCode f9.body = true := by kernel_rfl
def yes : Option AV → Bool
  | some (.bool true) => true
  | _ => false
theorem nodes0 : ((List.range 16).all fun i => yes (nodeX tabL 302 f9 [.int .u8 0, .int .u8 (Int.ofNat (0 + i))])) = true := by kernel_rfl
theorem nodes1 : ((List.range 16).all fun i => yes (nodeX tabL 302 f9 [.int .u8 0, .int .u8 (Int.ofNat (16 + i))])) = true := by kernel_rfl
theorem nodes2 : ((List.range 16).all fun i => yes (nodeX tabL 302 f9 [.int .u8 0, .int .u8 (Int.ofNat (32 + i))])) = true := by kernel_rfl
theorem nodes3 : ((List.range 16).all fun i => yes (nodeX tabL 302 f9 [.int .u8 0, .int .u8 (Int.ofNat (48 + i))])) = true := by kernel_rfl
theorem nodes4 : ((List.range 16).all fun i => yes (nodeX tabL 302 f9 [.int .u8 0, .int .u8 (Int.ofNat (64 + i))])) = true := by kernel_rfl
theorem nodes5 : ((List.range 16).all fun i => yes (nodeX tabL 302 f9 [.int .u8 0, .int .u8 (Int.ofNat (80 + i))])) = true := by kernel_rfl
theorem nodes6 : ((List.range 16).all fun i => yes (nodeX tabL 302 f9 [.int .u8 0, .int .u8 (Int.ofNat (96 + i))])) = true := by kernel_rfl
theorem nodes7 : ((List.range 16).all fun i => yes (nodeX tabL 302 f9 [.int .u8 0, .int .u8 (Int.ofNat (112 + i))])) = true := by kernel_rfl
theorem nodes8 : ((List.range 16).all fun i => yes (nodeX tabL 302 f9 [.int .u8 0, .int .u8 (Int.ofNat (128 + i))])) = true := by kernel_rfl
theorem nodes9 : ((List.range 16).all fun i => yes (nodeX tabL 302 f9 [.int .u8 0, .int .u8 (Int.ofNat (144 + i))])) = true := by kernel_rfl
theorem nodes10 : ((List.range 16).all fun i => yes (nodeX tabL 302 f9 [.int .u8 0, .int .u8 (Int.ofNat (160 + i))])) = true := by kernel_rfl
theorem nodes11 : ((List.range 16).all fun i => yes (nodeX tabL 302 f9 [.int .u8 0, .int .u8 (Int.ofNat (176 + i))])) = true := by kernel_rfl
theorem nodes12 : ((List.range 16).all fun i => yes (nodeX tabL 302 f9 [.int .u8 0, .int .u8 (Int.ofNat (192 + i))])) = true := by kernel_rfl
theorem nodes13 : ((List.range 16).all fun i => yes (nodeX tabL 302 f9 [.int .u8 0, .int .u8 (Int.ofNat (208 + i))])) = true := by kernel_rfl
theorem nodes14 : ((List.range 16).all fun i => yes (nodeX tabL 302 f9 [.int .u8 0, .int .u8 (Int.ofNat (224 + i))])) = true := by kernel_rfl
theorem nodes15 : ((List.range 16).all fun i => yes (nodeX tabL 302 f9 [.int .u8 0, .int .u8 (Int.ofNat (240 + i))])) = true := by kernel_rfl
theorem nodes : ∀ i, i < 256 → yes (nodeX tabL 302 f9 [.int .u8 0, .int .u8 (Int.ofNat i)]) = true := by
  intro i hi
  by_cases h0 : i < 16
  · have := List.all_eq_true.1 nodes0 (i - 0) (by simp only [List.mem_range]; omega)
    have e : 0 + (i - 0) = i := by omega
    rw [e] at this; exact this
  by_cases h1 : i < 32
  · have := List.all_eq_true.1 nodes1 (i - 16) (by simp only [List.mem_range]; omega)
    have e : 16 + (i - 16) = i := by omega
    rw [e] at this; exact this
  by_cases h2 : i < 48
  · have := List.all_eq_true.1 nodes2 (i - 32) (by simp only [List.mem_range]; omega)
    have e : 32 + (i - 32) = i := by omega
    rw [e] at this; exact this
  by_cases h3 : i < 64
  · have := List.all_eq_true.1 nodes3 (i - 48) (by simp only [List.mem_range]; omega)
    have e : 48 + (i - 48) = i := by omega
    rw [e] at this; exact this
  by_cases h4 : i < 80
  · have := List.all_eq_true.1 nodes4 (i - 64) (by simp only [List.mem_range]; omega)
    have e : 64 + (i - 64) = i := by omega
    rw [e] at this; exact this
  by_cases h5 : i < 96
  · have := List.all_eq_true.1 nodes5 (i - 80) (by simp only [List.mem_range]; omega)
    have e : 80 + (i - 80) = i := by omega
    rw [e] at this; exact this
  by_cases h6 : i < 112
  · have := List.all_eq_true.1 nodes6 (i - 96) (by simp only [List.mem_range]; omega)
    have e : 96 + (i - 96) = i := by omega
    rw [e] at this; exact this
  by_cases h7 : i < 128
  · have := List.all_eq_true.1 nodes7 (i - 112) (by simp only [List.mem_range]; omega)
    have e : 112 + (i - 112) = i := by omega
    rw [e] at this; exact this
  by_cases h8 : i < 144
  · have := List.all_eq_true.1 nodes8 (i - 128) (by simp only [List.mem_range]; omega)
    have e : 128 + (i - 128) = i := by omega
    rw [e] at this; exact this
  by_cases h9 : i < 160
  · have := List.all_eq_true.1 nodes9 (i - 144) (by simp only [List.mem_range]; omega)
    have e : 144 + (i - 144) = i := by omega
    rw [e] at this; exact this
  by_cases h10 : i < 176
  · have := List.all_eq_true.1 nodes10 (i - 160) (by simp only [List.mem_range]; omega)
    have e : 160 + (i - 160) = i := by omega
    rw [e] at this; exact this
  by_cases h11 : i < 192
  · have := List.all_eq_true.1 nodes11 (i - 176) (by simp only [List.mem_range]; omega)
    have e : 176 + (i - 176) = i := by omega
    rw [e] at this; exact this
  by_cases h12 : i < 208
  · have := List.all_eq_true.1 nodes12 (i - 192) (by simp only [List.mem_range]; omega)
    have e : 192 + (i - 192) = i := by omega
    rw [e] at this; exact this
  by_cases h13 : i < 224
  · have := List.all_eq_true.1 nodes13 (i - 208) (by simp only [List.mem_range]; omega)
    have e : 208 + (i - 208) = i := by omega
    rw [e] at this; exact this
  by_cases h14 : i < 240
  · have := List.all_eq_true.1 nodes14 (i - 224) (by simp only [List.mem_range]; omega)
    have e : 224 + (i - 224) = i := by omega
    rw [e] at this; exact this
  have := List.all_eq_true.1 nodes15 (i - 240) (by simp only [List.mem_range]; omega)
  have e : 240 + (i - 240) = i := by omega
  rw [e] at this; exact this
theorem yes_inv {r : Option AV} (h : yes r = true) : r = some (.bool true) := by
  unfold yes at h
  split at h
  · rfl
  · simp at h
theorem wk : wkCode [(0, 0)] f9.body = true := by kernel_rfl
theorem wr : strong [(0, 0)] (resTmps f9.results) = true := by kernel_rfl
theorem run (a b : Int) (a0 : 0 ≤ a) (a1 : a ≤ 255) (b0 : 0 ≤ b) (b1 : b ≤ 255) (om : List Nat) : ∃ h' om', callN prog 303 9 [.int .u8 a, .int .u8 b] Heap.empty om = some (.bool true, h', om') := by
  rw [weak_call (prog := prog) (g := 9) (f := f9) rfl wk wr (as := [.int .u8 a, .int .u8 b]) (bs := [.int .u8 0, .int .u8 b]) ⟨.inl rfl, rfl, trivial⟩ 302]
  obtain ⟨i, hi, rfl⟩ : ∃ i : Nat, i < 256 ∧ b = Int.ofNat i := ⟨b.toNat, by omega, by rw [Int.ofNat_eq_natCast]; omega⟩
  exact (Ev.node (f := f9) rfl tabOK hfL rfl rfl (yes_inv (nodes i hi))).run om
end Go.Am.Infer
