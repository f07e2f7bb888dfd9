/- Whole numbers for the kernel: comparisons and sums, the same as AmA's, sooner. -/
import Derived.Test.YtjjcongjjikifaaAmS
set_option linter.unusedVariables false
set_option linter.unusedSimpArgs false
namespace Go.Am

def kIdx : IntKind → Nat
  | .i8 => 0 | .i16 => 1 | .i32 => 2 | .i64 => 3 | .u8 => 4 | .u16 => 5 | .u32 => 6 | .u64 => 7
theorem kIdx_eq (a b : IntKind) : (Nat.beq (kIdx a) (kIdx b) = true) ↔ a = b := by
  cases a <;> cases b <;> simp [kIdx]
def kMax : IntKind → Nat
  | .i8 => 127 | .i16 => 32767 | .i32 => 2147483647 | .i64 => 9223372036854775807 | .u8 => 255 | .u16 => 65535 | .u32 => 4294967295 | .u64 => 18446744073709551615
def kMin : IntKind → Nat
  | .i8 => 128 | .i16 => 32768 | .i32 => 2147483648 | .i64 => 9223372036854775808 | _ => 0
theorem wrap_pos (k : IntKind) (n : Nat) (h : n ≤ kMax k) : k.wrap (n : Int) = n := by
  cases k <;> simp only [kMax] at h <;> simp only [IntKind.wrap, IntKind.bits, IntKind.signed] <;> simp <;> omega
theorem wrap_neg (k : IntKind) (n : Nat) (h : n < kMin k) : k.wrap (Int.negSucc n) = Int.negSucc n := by
  cases k <;> simp only [kMin] at h <;> simp only [IntKind.wrap, IntKind.bits, IntKind.signed] <;> simp <;> omega
def wrapK (k : IntKind) (n : Int) : Int :=
  match n with
  | .ofNat m => match Nat.ble m (kMax k) with
    | true => .ofNat m
    | false => k.wrap (.ofNat m)
  | .negSucc m => match Nat.blt m (kMin k) with
    | true => .negSucc m
    | false => k.wrap (.negSucc m)
theorem wrapK_eq (k : IntKind) (n : Int) : wrapK k n = k.wrap n := by
  unfold wrapK
  cases n with
  | ofNat m =>
    simp only []
    cases h : Nat.ble m (kMax k) with
    | false => simp only []
    | true => simp only []; exact (wrap_pos k m (Nat.le_of_ble_eq_true h)).symm
  | negSucc m =>
    simp only []
    cases h : Nat.blt m (kMin k) with
    | false => simp only []
    | true => simp only []; exact (wrap_neg k m (by simpa [Nat.blt_eq] using h)).symm
def intEq (a b : Int) : Bool :=
  match a, b with
  | .ofNat m, .ofNat n => Nat.beq m n
  | .negSucc m, .negSucc n => Nat.beq m n
  | _, _ => false
theorem intEq_eq (a b : Int) : intEq a b = decide (a = b) := by
  rw [Bool.eq_iff_iff]
  cases a <;> cases b <;> simp [intEq] <;> omega
def intLt (a b : Int) : Bool :=
  match a, b with
  | .ofNat m, .ofNat n => Nat.blt m n
  | .negSucc m, .negSucc n => Nat.blt n m
  | .negSucc _, .ofNat _ => true
  | .ofNat _, .negSucc _ => false
theorem intLt_eq (a b : Int) : intLt a b = decide (a < b) := by
  rw [Bool.eq_iff_iff]
  cases a <;> cases b <;> simp [intLt, Nat.blt_eq] <;> omega
def cmpK (op : BinOp) (a b : Int) : Option AV :=
  match op with
  | .eql => some (.bool (intEq a b))
  | .neq => some (.bool (!intEq a b))
  | .lss => some (.bool (intLt a b))
  | .leq => some (.bool (!intLt b a))
  | .gtr => some (.bool (intLt b a))
  | .geq => some (.bool (!intLt a b))
  | _ => none
theorem cmpK_eq (op : BinOp) (a b : Int) : cmpK op a b = cmpInt op a b := by
  cases op <;> simp only [cmpK, cmpInt, intEq_eq, intLt_eq]
  · rw [Option.some.injEq, AV.bool.injEq, Bool.eq_iff_iff]; simp
  · rw [Option.some.injEq, AV.bool.injEq, Bool.eq_iff_iff]; simp
def intK (op : BinOp) (k : IntKind) (a b : Int) : Option AV :=
  match op with
  | .add => some (.int k (wrapK k (a + b)))
  | .sub => some (.int k (wrapK k (a - b)))
  | .mul => some (.int k (wrapK k (a * b)))
  | .eql | .neq | .lss | .leq | .gtr | .geq => cmpK op a b
  | op => binInt op k a b
theorem intK_eq (op : BinOp) (k : IntKind) (a b : Int) : intK op k a b = binInt op k a b := by
  cases op <;> simp only [intK, binInt, wrapK_eq, cmpK_eq]
def binK (ty : BTy) (op : BinOp) (x y : AV) : Option AV :=
  match x with
  | .int k a => match y with
    | .int k' b => match op with
      | .shl => binOp ty op x y
      | .shr => binOp ty op x y
      | op => match Nat.beq (kIdx k) (kIdx k') with
        | true => intK op k a b
        | false => none
    | _ => binOp ty op x y
  | _ => binOp ty op x y
theorem binK_eq (ty : BTy) (op : BinOp) (x y : AV) : binK ty op x y = binOp ty op x y := by
  cases x <;> try rfl
  cases y <;> try rfl
  rename_i k a k' b
  have key : (match Nat.beq (kIdx k) (kIdx k') with | true => intK op k a b | false => none) = if k = k' then binInt op k a b else none := by
    cases h : Nat.beq (kIdx k) (kIdx k') with
    | true => rw [if_pos ((kIdx_eq k k').1 h), intK_eq]
    | false => rw [if_neg (fun e => by rw [(kIdx_eq k k').2 e] at h; simp at h)]
  cases op <;> first | rfl | exact key
end Go.Am
