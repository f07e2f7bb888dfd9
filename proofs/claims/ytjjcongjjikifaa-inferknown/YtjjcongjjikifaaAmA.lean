/- The abstract machine: values, memory, operations, code; a deterministic interpreter over pure values. No program in sight. -/
import GoSem.Core.Sem
import GoSem.Op.IntBits
import GoSem.Op.String
namespace Go.Am

/-- What is known of a slice's room: nil; nothing; it is full; token t: it may be appended to in place. -/
inductive Tk where
  | nil | no | exact | live (t esz : Nat)
  deriving DecidableEq, Repr, Inhabited

inductive AV where
  | bool (b : Bool)
  | int (k : IntKind) (n : Int)
  | str (s : List UInt8)
  | nilp
  | ptr (id off : Nat)
  | fp (cells : List AV)
  | sl (id off len esz : Nat)
  | pl (cells : List AV) (len : Nat) (tk : Tk)
  | map (id : Nat)
  | nilm
  | func (g : Nat) (first cap : List AV)
  | nilf
  | nili
  | agg (cells : List AV)
  | tup (vs : List AV)
  deriving Inhabited

/-- What a slot holds: a value; a pointer into a variable of the frame's own; the place of a map's entry. -/
inductive TV where
  | v (a : AV)
  | bx (k gen off : Nat)
  | st (id : Nat) (key : AV) (ver : Nat) (ex : Bool)
  deriving Inhabited

def TV.undef : TV := .v (.tup [])

inductive AObj where
  | cells (c : List AV)
  | map (es : List (AV × AV))
  | tok
  | iter (m : Option Nat) (seen : List AV) (cnt : Nat)
  deriving Inhabited

structure Heap where
  objs : List (Nat × AObj)
  next : Nat
  ver : Nat
  deriving Inhabited

/-- The frame's own variables: of each slot's, newest first. -/
inductive Boxes where
  | lf
  | nd (v : List (Nat × List AV)) (l r : Boxes)
  deriving Inhabited

structure St where
  T : List TV
  L : Boxes
  H : Heap
  om : List Nat := []
  deriving Inhabited

def lget : List TV → Nat → TV
  | [], _ => .undef
  | x :: _, 0 => x
  | _ :: r, k + 1 => lget r k
def lset : List TV → Nat → TV → List TV
  | [], 0, v => [v]
  | [], k + 1, v => .undef :: lset [] k v
  | _ :: r, 0, v => v :: r
  | x :: r, k + 1, v => x :: lset r k v

def oget : List (Nat × AObj) → Nat → Option AObj
  | [], _ => none
  | (i, o) :: r, j => if Nat.beq i j then some o else oget r j
def oset : List (Nat × AObj) → Nat → AObj → List (Nat × AObj)
  | [], j, x => [(j, x)]
  | (i, o) :: r, j, x => if Nat.beq i j then (i, x) :: r else (i, o) :: oset r j x
def odel : List (Nat × AObj) → Nat → List (Nat × AObj)
  | [], _ => []
  | (i, o) :: r, j => if Nat.beq i j then odel r j else (i, o) :: odel r j

def bgen : List (Nat × List AV) → Nat → Option (List AV)
  | [], _ => none
  | (g, c) :: r, j => if Nat.beq g j then some c else bgen r j
def bput : List (Nat × List AV) → Nat → List AV → List (Nat × List AV)
  | [], _, _ => []
  | (g, c) :: r, j, x => if Nat.beq g j then (g, x) :: r else (g, c) :: bput r j x
def bmax : List (Nat × List AV) → Nat
  | [] => 0
  | (g, _) :: r => Nat.max (g + 1) (bmax r)
def Boxes.v : Boxes → List (Nat × List AV)
  | .lf => []
  | .nd v _ _ => v
def Boxes.l : Boxes → Boxes
  | .lf => .lf
  | .nd _ l _ => l
def Boxes.r : Boxes → Boxes
  | .lf => .lf
  | .nd _ _ r => r
def bget : Boxes → Nat → List (Nat × List AV)
  | .lf, _ => []
  | .nd v _ _, 0 => v
  | .nd _ l r, k + 1 => match Nat.beq (k % 2) 0 with
    | true => bget l (k / 2)
    | false => bget r (k / 2)
def bsetF (v : List (Nat × List AV)) : Nat → Boxes → Nat → Boxes
  | 0, t, _ => t
  | _ + 1, t, 0 => .nd v t.l t.r
  | f + 1, t, k + 1 => match Nat.beq (k % 2) 0 with
    | true => .nd t.v (bsetF v f t.l (k / 2)) t.r
    | false => .nd t.v t.l (bsetF v f t.r (k / 2))
def bset (t : Boxes) (k : Nat) (v : List (Nat × List AV)) : Boxes := bsetF v (k + 1) t k

inductive AOpd where
  | t (k : Nat)
  | c (a : AV)
  deriving Inhabited

/-- Kinds of what can be compared. -/
inductive KK where
  | i (k : IntKind) | s | b
  deriving DecidableEq, Repr, Inhabited
inductive BTy where
  | sc | bool | slice | flat (ks : List KK)
  deriving DecidableEq, Repr, Inhabited
inductive KT where
  | one (k : KK) | flat (ks : List KK)
  deriving DecidableEq, Repr, Inhabited

inductive AOp where
  | mv (x : AOpd)
  | pick (c a b : AOpd)
  | alloc (priv : Bool) (zero : List AV)
  | box (priv : Bool) (x : AOpd)
  | build (zero : List AV) (parts : List (Nat × Nat × AOpd))
  | bslice (heap : Bool) (len : Nat) (zero : List AV) (parts : List (Nat × Nat × AOpd))
  | load (agg : Bool) (n : Nat) (x : AOpd)
  | loadS (agg : Bool) (n : Nat) (x : AOpd)
  | store (n : Nat) (a x : AOpd)
  | nilck (x : AOpd)
  | bin (ty : BTy) (op : BinOp) (x y : AOpd)
  | not (x : AOpd)
  | neg (x : AOpd)
  | bnot (x : AOpd)
  | cint (k : IntKind) (x : AOpd)
  | cstr (x : AOpd)
  | sbytes (x : AOpd)
  | bstr (x : AOpd)
  | faddr (off : Nat) (x : AOpd)
  | field (agg : Bool) (off n : Nat) (x : AOpd)
  | iaddr (arr : Option Nat) (esz : Nat) (x i : AOpd)
  | index (x i : AOpd)
  | sliceS (x : AOpd) (lo hi : Option AOpd)
  | sliceL (esz : Nat) (x : AOpd) (lo hi mx : Option AOpd)
  | sliceA (n esz : Nat) (x : AOpd) (lo hi : Option AOpd)
  | lookup (kt : KT) (zero : AV) (ok : Bool) (m k : AOpd)
  | mupd (kt : KT) (m k x : AOpd)
  | ins (kt : KT) (m k x : AOpd)
  | ment (kt : KT) (zero : AV) (m k : AOpd)
  | estore (m s x : AOpd)
  | mkmap
  | mkslice (esz bytes : Nat) (zero : List AV) (l c : AOpd)
  | mkfun (g : Nat) (first cap : List AOpd)
  | extract (i : Nat) (x : AOpd)
  | app (heap : Bool) (esz bytes : Nat) (s x : AOpd)
  | appS (heap : Bool) (esz bytes : Nat) (s x : AOpd)
  | clr (esz : Nat) (zero : List AV) (x : AOpd)
  | len (ty : Nat) (x : AOpd)
  | max (xs : List AOpd)
  | min (xs : List AOpd)
  | call (f : AOpd) (args : List AOpd)
  deriving Inhabited

structure AOper where
  dst : Option Nat
  op : AOp
  guard : Option (Nat × Bool)
  nh : Bool
  hide : List Nat
  deriving Inhabited

inductive ACode where
  | skip
  | ops (l : List AOper) (draw : Option (List (List Nat)))
  | frz (ks : List Nat)
  | seq (a b : ACode)
  | cond (c : AOpd) (a b : ACode)
  | block (id : Nat) (b : ACode)
  | loop (b : ACode)
  | exit (id : Nat)
  | ret
  deriving Inhabited

inductive ARes where
  | tmp (k : Nat)
  | cell (k n : Nat) (agg : Bool)
  deriving Inhabited

structure AFunc where
  np : Nat
  ntmps : Nat
  results : List ARes
  frz : Bool
  body : ACode
  deriving Inhabited

/-! ### values -/
def AV.cells : AV → List AV
  | .agg cs => cs
  | v => [v]
def AV.one : AV → Bool
  | .agg _ | .tup _ => false
  | _ => true

def ev (T : List TV) : AOpd → TV
  | .t k => lget T k
  | .c a => .v a
/-- An operand that may leave the frame. -/
def eva (T : List TV) (x : AOpd) : Option AV :=
  match ev T x with
  | .v a => some a
  | _ => none
def evas (T : List TV) : List AOpd → Option (List AV)
  | [] => some []
  | x :: r => match eva T x, evas T r with
    | some a, some l => some (a :: l)
    | _, _ => none

def splice (z : List AV) (off : Nat) (cs : List AV) : List AV := z.take off ++ (cs ++ z.drop (off + cs.length))
def fillA (T : List TV) : List AV → List (Nat × Nat × AOpd) → Option (List AV)
  | z, [] => some z
  | z, (off, n, x) :: r => match eva T x with
    | some a => if Nat.beq a.cells.length n && Nat.ble (off + n) z.length then fillA T (splice z off a.cells) r else none
    | none => none

def takeN (n : Nat) (l : List AV) : Option (List AV) := if Nat.ble n l.length then some (l.take n) else none
def asV (agg : Bool) (n : Nat) (l : List AV) : Option AV :=
  if agg then (takeN n l).map .agg else l.head?

/-- One key against another one: whole numbers, texts, truths, and structs of these. -/
def eq1 : AV → AV → Option Bool
  | .int j a, .int k b => if j = k then some (decide (a = b)) else none
  | .str a, .str b => some (decide (a = b))
  | .bool a, .bool b => some (decide (a = b))
  | _, _ => none
def eqs : List AV → List AV → Option Bool
  | [], [] => some true
  | a :: r, b :: s => match eq1 a b, eqs r s with
    | some x, some y => some (x && y)
    | _, _ => none
  | _, _ => none
def keyEq : AV → AV → Option Bool
  | .agg a, .agg b => eqs a b
  | a, b => eq1 a b

def kkOk : KK → AV → Bool
  | .i k, .int k' _ => decide (k = k')
  | .s, .str _ => true
  | .b, .bool _ => true
  | _, _ => false
def flatOk : List KK → List AV → Bool
  | [], [] => true
  | k :: r, a :: s => kkOk k a && flatOk r s
  | _, _ => false
def ktOk : KT → AV → Bool
  | .one k, a => kkOk k a
  | .flat ks, .agg cs => flatOk ks cs
  | _, _ => false

def mfind (k : AV) : List (AV × AV) → Option (Option AV)
  | [] => some none
  | (k', v) :: r => match keyEq k k' with
    | some true => some (some v)
    | some false => mfind k r
    | none => none
def mput (k x : AV) : List (AV × AV) → List (AV × AV)
  | [] => [(k, x)]
  | (k', v) :: r => if keyEq k k' = some true then (k', x) :: r else (k', v) :: mput k x r

/-- Keys in an order, for what is put into a new map in any order. -/
def enc1 : AV → List Int
  | .int _ n => [n]
  | .str s => s.map fun b => (b.toNat : Int)
  | .bool b => [if b then 1 else 0]
  | _ => []
def enc : AV → List Int
  | .agg cs => cs.flatMap fun c => enc1 c ++ [-1]
  | a => enc1 a
def lexLt : List Int → List Int → Bool
  | _, [] => false
  | [], _ :: _ => true
  | a :: r, b :: s => if a < b then true else if b < a then false else lexLt r s
def mins (k x : AV) : List (AV × AV) → List (AV × AV)
  | [] => [(k, x)]
  | (k', v) :: r => if lexLt (enc k) (enc k') then (k, x) :: (k', v) :: r else (k', v) :: mins k x r

def cmpInt (op : BinOp) (a b : Int) : Option AV :=
  match op with
  | .eql => some (.bool (decide (a = b)))
  | .neq => some (.bool (!decide (a = b)))
  | .lss => some (.bool (decide (a < b)))
  | .leq => some (.bool (decide (a ≤ b)))
  | .gtr => some (.bool (decide (b < a)))
  | .geq => some (.bool (decide (b ≤ a)))
  | _ => none
def binInt (op : BinOp) (k : IntKind) (a b : Int) : Option AV :=
  match op with
  | .add => some (.int k (k.wrap (a + b)))
  | .sub => some (.int k (k.wrap (a - b)))
  | .mul => some (.int k (k.wrap (a * b)))
  | .quo => if b = 0 then none else some (.int k (k.wrap (a.tdiv b)))
  | .rem => if b = 0 then none else some (.int k (a.tmod b))
  | .and => some (.int k (k.wrap (BitVec.ofInt k.bits a &&& BitVec.ofInt k.bits b).toNat))
  | .or => some (.int k (k.wrap (BitVec.ofInt k.bits a ||| BitVec.ofInt k.bits b).toNat))
  | .xor => some (.int k (k.wrap (BitVec.ofInt k.bits a ^^^ BitVec.ofInt k.bits b).toNat))
  | .andNot => some (.int k (k.wrap (BitVec.ofInt k.bits a &&& ~~~(BitVec.ofInt k.bits b)).toNat))
  | .shl | .shr => none
  | _ => cmpInt op a b
def binShift (op : BinOp) (k : IntKind) (a b : Int) : Option AV :=
  if b < 0 then none else
  match op with
  | .shl => some (.int k (k.wrap (a * 2 ^ (min b.toNat k.bits))))
  | .shr => some (.int k (a.fdiv (2 ^ (min b.toNat k.bits))))
  | _ => none
/-- A sum of lengths, or a slice's bytes, above this is not told. -/
def most : Nat := 1099511627776
def binStr (op : BinOp) (a b : List UInt8) : Option AV :=
  match op with
  | .add => if Nat.ble (a.length + b.length) most then some (.str (a ++ b)) else none
  | .eql => some (.bool (decide (a = b)))
  | .neq => some (.bool (!decide (a = b)))
  | .lss => some (.bool (Op.bytesLess a b))
  | .leq => some (.bool (Op.bytesLess a b || decide (a = b)))
  | .gtr => some (.bool (!(Op.bytesLess a b || decide (a = b))))
  | .geq => some (.bool (!Op.bytesLess a b))
  | _ => none
def isNil : AV → Option Bool
  | .nilp | .nilm | .nilf | .nili => some true
  | .pl _ _ .nil => some true
  | .pl _ _ _ | .sl _ _ _ _ | .ptr _ _ | .fp _ | .map _ | .func _ _ _ => some false
  | _ => none
def binOp (ty : BTy) (op : BinOp) (x y : AV) : Option AV :=
  match x, y with
  | .int k a, .int k' b =>
    match op with
    | .shl | .shr => binShift op k a b
    | _ => if k = k' then binInt op k a b else none
  | .str a, .str b => binStr op a b
  | .bool a, .bool b => match ty, op with
    | .bool, .eql => some (.bool (decide (a = b)))
    | .bool, .neq => some (.bool (!decide (a = b)))
    | _, _ => none
  | .agg a, .agg b => match ty with
    | .flat ks => if flatOk ks a && flatOk ks b then match op, eqs a b with
        | .eql, some r => some (.bool r)
        | .neq, some r => some (.bool (!r))
        | _, _ => none
      else none
    | _ => none
  | .pl _ _ tk, .pl [] 0 .nil => match ty, op with
    | .slice, .eql => some (.bool (decide (tk = .nil)))
    | .slice, .neq => some (.bool (!decide (tk = .nil)))
    | _, _ => none
  | .sl _ _ _ _, .pl [] 0 .nil => match ty, op with
    | .slice, .eql => some (.bool false)
    | .slice, .neq => some (.bool true)
    | _, _ => none
  | _, _ => none

def toIdx : TV → Option Int
  | .v (.int _ n) => some n
  | _ => none
/-- An index of what has n elements. -/
def within (i : Int) (n : Nat) : Option Nat := if 0 ≤ i ∧ i < n then some i.toNat else none
def bound (x : Option TV) (d n : Nat) : Option Nat :=
  match x with
  | none => some d
  | some v => match toIdx v with
    | some i => if 0 ≤ i ∧ i ≤ n then some i.toNat else none
    | none => none

def Heap.add (h : Heap) (o : AObj) : Heap := { objs := (h.next, o) :: h.objs, next := h.next + 1, ver := h.ver + 1 }
def Heap.put (h : Heap) (id : Nat) (o : AObj) : Heap := { h with objs := oset h.objs id o, ver := h.ver + 1 }
def Heap.del (h : Heap) (id : Nat) : Heap := { h with objs := odel h.objs id, ver := h.ver + 1 }
def Heap.get (h : Heap) (id : Nat) : Option AObj := oget h.objs id

/-- The cells from a pointer on. -/
def cellsAt (L : Boxes) (h : Heap) : TV → Option (List AV)
  | .bx k g off => (bgen (bget L k) g).bind fun c => if Nat.ble off c.length then some (c.drop off) else none
  | .v (.ptr id off) => match h.get id with
    | some (.cells c) => if Nat.ble off c.length then some (c.drop off) else none
    | _ => none
  | .v (.fp cs) => some cs
  | _ => none

def sliceTk : Tk → Nat → Tk
  | .live t e, c => if Nat.beq c 0 then .live t e else .no
  | t, _ => t

/-- A slice's cells, as they are. -/
def sliceCells (h : Heap) (esz : Nat) : AV → Option (List AV × Nat)
  | .pl cs len _ => if Nat.beq cs.length (len * esz) then some (cs, len) else none
  | .sl id off len e => match h.get id with
    | some (.cells c) => if Nat.beq e esz && Nat.ble (off + len * esz) c.length then some ((c.drop off).take (len * esz), len) else none
    | _ => none
  | .str s => if Nat.beq esz 1 then some (s.map fun b => AV.int .u8 b.toNat, s.length) else none
  | _ => none

/-- A slice in memory of its own as one that is written no more. -/
def freeze (h : Heap) : AV → AV × Heap
  | .sl id off len esz => match h.get id with
    | some (.cells c) =>
      if Nat.ble (off + len * esz) c.length && Nat.ble 1 esz then (.pl ((c.drop off).take (len * esz)) len .no, h.del id) else (.sl id off len esz, h)
    | _ => (.sl id off len esz, h)
  | v => (v, h)
def freezes (h : Heap) : List AV → List AV × Heap
  | [] => ([], h)
  | a :: r => let (a', h1) := freeze h a; let (r', h2) := freezes h1 r; (a' :: r', h2)
/-- A value, and the parts of a struct or of results. -/
def freezeAll0 (h : Heap) : AV → AV × Heap
  | .agg cs => let (cs', h') := freezes h cs; (.agg cs', h')
  | .tup cs => let (cs', h') := freezes h cs; (.tup cs', h')
  | v => freeze h v
mutual
/-- What is known of room is forgotten. -/
def forgetA : AV → AV
  | .bool b => .bool b
  | .int kd n => .int kd n
  | .str s => .str s
  | .nilp => .nilp
  | .ptr i o => .ptr i o
  | .fp cs => .fp (forgetL cs)
  | .sl i o l e => .sl i o l e
  | .pl cs l tk => .pl (forgetL cs) l (match tk with | .live _ _ => .no | tk => tk)
  | .map i => .map i
  | .nilm => .nilm
  | .func g a b => .func g (forgetL a) (forgetL b)
  | .nilf => .nilf
  | .nili => .nili
  | .agg cs => .agg (forgetL cs)
  | .tup cs => .tup (forgetL cs)
def forgetL : List AV → List AV
  | [] => []
  | a :: r => forgetA a :: forgetL r
end
def freezeAll (h : Heap) (v : AV) : AV × Heap := (forgetA (freezeAll0 h v).1, (freezeAll0 h v).2)

/-- A slice in new memory. -/
def appNew (heap : Bool) (esz need : Nat) (cs : List AV) (h : Heap) : Option (AV × Heap) :=
  if heap then some (.sl h.next 0 need esz, h.add (.cells cs)) else some (.pl cs need (.live h.next esz), h.add .tok)

/-- A slice behind which some cells are put. -/
def append (heap : Bool) (esz bytes : Nat) (h : Heap) (s x : AV) : Option (AV × Heap) :=
  match sliceCells h esz x with
  | none => none
  | some (xs, n) =>
    match s with
    | .pl cs len tk =>
      if Nat.beq cs.length (len * esz) && Nat.ble ((len + n) * bytes) most && Nat.ble 1 esz && Nat.ble 1 bytes then
        if Nat.beq n 0 then some (s, h)
        else
          match tk with
          | .nil | .exact => appNew heap esz (len + n) (cs ++ xs) h
          | .live t e => match h.get t with
            | some .tok => if Nat.beq e esz && !heap && xs.all AV.one then appNew heap esz (len + n) (cs ++ xs) (h.del t) else none
            | _ => none
          | .no => none
      else none
    | .sl id off len e =>
      match h.get id with
      | some (.cells c) =>
        if Nat.beq e esz && Nat.ble (off + len * esz) c.length && Nat.ble ((len + n) * bytes) most && Nat.ble 1 esz && Nat.ble 1 bytes && heap && xs.all AV.one then
          appNew heap esz (len + n) ((c.drop off).take (len * esz) ++ xs) (h.del id)
        else none
      | _ => none
    | _ => none

/-- A value that is neither a place nor made of values. -/
def AV.scalar : AV → Bool
  | .bool _ | .int _ _ | .str _ => true
  | _ => false
/-- All that is put behind one another is scalar. -/
def appFlat (esz : Nat) (h : Heap) (s x : AV) : Bool :=
  (match s with
  | .sl id _ _ _ => match h.get id with
    | some (.cells c) => c.all AV.scalar
    | _ => false
  | .pl cs _ _ => cs.all AV.scalar
  | _ => false) && match sliceCells h esz x with
  | some (xs, _) => xs.all AV.scalar
  | none => false

def max2 : AV → AV → Option AV
  | .int k x, .int _ y => some (.int k (if x < y then y else x))
  | _, _ => none
def min2 : AV → AV → Option AV
  | .int k x, .int _ y => some (.int k (if y < x then y else x))
  | _, _ => none
def fold2 (f : AV → AV → Option AV) : AV → List AV → Option AV
  | a, [] => some a
  | a, b :: r => match f a b with
    | some c => fold2 f c r
    | none => none
def fold1 (f : AV → AV → Option AV) : List AV → Option AV
  | [] => none
  | a :: r => fold2 f a r

def unBytes : List AV → Option (List UInt8)
  | [] => some []
  | .int .u8 n :: r => match unBytes r with
    | some l => some (UInt8.ofNat n.toNat :: l)
    | none => none
  | _ => none
def notStr : AV → Bool
  | .str _ => false
  | _ => true

def repeatC (z : List AV) : Nat → List AV
  | 0 => []
  | n + 1 => z ++ repeatC z n

/-- A new entry of a map that is being made. -/
def insF (kt : KT) (h : Heap) (id : Nat) (key v : AV) : Option Heap :=
  match h.get id with
  | some (.map es) => match ktOk kt key, mfind key es with
    | true, some none => if es.all fun e => !decide (enc key = enc e.1) then some (h.put id (.map (mins key v es))) else none
    | _, _ => none
  | _ => none

/-! ### operations: what becomes of the slot, the frame's variables, the memory -/
abbrev R := Option (TV × Boxes × Heap)
def ret1 (L : Boxes) (h : Heap) (o : Option AV) : R := o.map fun a => (.v a, L, h)
def newBox (L : Boxes) (h : Heap) (dst : Option Nat) (priv : Bool) (c : List AV) : R :=
  if priv then match dst with
    | some k => some (.bx k (bmax (bget L k)) 0, bset L k ((bmax (bget L k), c) :: bget L k), h)
    | none => none
  else some (.v (.ptr h.next 0), L, h.add (.cells c))

def evo (T : List TV) (x : Option AOpd) : Option TV := x.map (ev T)

def AOp.sem (dst : Option Nat) (op : AOp) (T : List TV) (L : Boxes) (h : Heap) : R :=
  match op with
  | .mv x => some (ev T x, L, h)
  | .pick c a b => match ev T c with
    | .v (.bool t) => some (if t then ev T a else ev T b, L, h)
    | _ => none
  | .alloc priv z => newBox L h dst priv z
  | .box priv x => match eva T x with
    | some a => newBox L h dst priv a.cells
    | none => none
  | .build z ps => ret1 L h ((fillA T z ps).map .agg)
  | .bslice heap ln z ps => match fillA T z ps with
    | some cs => if heap then
        if Nat.beq ln 0 then none else some (.v (.sl h.next 0 ln (cs.length / ln)), L, h.add (.cells cs))
      else some (.v (.pl cs ln .exact), L, h)
    | none => none
  | .load agg n x => match cellsAt L h (ev T x) with
    | some cs => ret1 L h (asV agg n cs)
    | none => none
  | .loadS agg n x => match ev T x with
    | .v (.ptr id off) => match h.get id with
      | some (.cells c) => if Nat.ble off c.length && (Nat.blt id h.next && !(c.all AV.scalar)) then ret1 L h (asV agg n (c.drop off)) else none
      | _ => none
    | _ => none
  | .store n a x => match ev T a, eva T x with
    | .bx k g off, some v => match bgen (bget L k) g with
      | some c => if Nat.beq v.cells.length n && Nat.ble (off + n) c.length && v.cells.all AV.one then some (.undef, bset L k (bput (bget L k) g (splice c off v.cells)), h) else none
      | none => none
    | .v (.ptr id off), some v => match h.get id with
      | some (.cells c) => if Nat.beq v.cells.length n && Nat.ble (off + n) c.length && v.cells.all AV.one then some (.undef, L, h.put id (.cells (splice c off v.cells))) else none
      | _ => none
    | _, _ => none
  | .nilck x => match ev T x with
    | .bx k g off => some (.bx k g off, L, h)
    | .v (.ptr id off) => some (.v (.ptr id off), L, h)
    | .v (.fp cs) => some (.v (.fp cs), L, h)
    | _ => none
  | .bin ty op x y => match eva T x, eva T y with
    | some a, some b => ret1 L h (binOp ty op a b)
    | _, _ => none
  | .not x => match ev T x with
    | .v (.bool b) => some (.v (.bool (!b)), L, h)
    | _ => none
  | .neg x => match ev T x with
    | .v (.int k n) => some (.v (.int k (k.wrap (0 - n))), L, h)
    | _ => none
  | .bnot x => match ev T x with
    | .v (.int k n) => ret1 L h (binInt .xor k (if k.signed then -1 else k.max) n)
    | _ => none
  | .cint k x => match ev T x with
    | .v (.int _ n) => some (.v (.int k (k.wrap n)), L, h)
    | _ => none
  | .cstr x => match ev T x with
    | .v (.str s) => some (.v (.str s), L, h)
    | _ => none
  | .sbytes x => match ev T x with
    | .v (.str s) => some (.v (.pl (s.map fun b => AV.int .u8 b.toNat) s.length .no), L, h)
    | _ => none
  | .bstr x => match eva T x with
    | some a => match notStr a, sliceCells h 1 a with
      | true, some (cs, _) => ret1 L h ((unBytes cs).map .str)
      | _, _ => none
    | none => none
  | .faddr o x => match ev T x with
    | .bx k g off => some (.bx k g (off + o), L, h)
    | .v (.ptr id off) => some (.v (.ptr id (off + o)), L, h)
    | .v (.fp cs) => if Nat.ble o cs.length then some (.v (.fp (cs.drop o)), L, h) else none
    | _ => none
  | .field agg off n x => match ev T x with
    | .v (.agg cs) => ret1 L h (asV agg n (cs.drop off))
    | _ => none
  | .iaddr arr esz x i => match toIdx (ev T i) with
    | none => none
    | some i => match arr with
      | some n => match within i n, ev T x with
        | some j, .bx k g off => some (.bx k g (off + j * esz), L, h)
        | some j, .v (.ptr id off) => some (.v (.ptr id (off + j * esz)), L, h)
        | some j, .v (.fp cs) => if Nat.ble (j * esz) cs.length then some (.v (.fp (cs.drop (j * esz))), L, h) else none
        | _, _ => none
      | none => match ev T x with
        | .v (.pl cs ln _) => match within i ln with
          | some j => if Nat.ble ((j + 1) * esz) cs.length then some (.v (.fp ((cs.drop (j * esz)).take esz)), L, h) else none
          | none => none
        | .v (.sl id off ln e) => match within i ln with
          | some j => if Nat.beq e esz then some (.v (.ptr id (off + j * esz)), L, h) else none
          | none => none
        | _ => none
  | .index x i => match ev T x, toIdx (ev T i) with
    | .v (.str s), some i => match within i s.length with
      | some j => ret1 L h (s[j]?.map fun b => AV.int .u8 b.toNat)
      | none => none
    | _, _ => none
  | .sliceS x lo hi => match ev T x with
    | .v (.str s) => match bound (evo T hi) s.length s.length with
      | some b => match bound (evo T lo) 0 b with
        | some a => some (.v (.str ((s.take b).drop a)), L, h)
        | none => none
      | none => none
    | _ => none
  | .sliceL esz x lo hi mx => match ev T x with
    | .v (.pl cs ln tk) => match mx, bound (evo T hi) ln ln with
      | none, some b => match bound (evo T lo) 0 b with
        | some a => if Nat.beq cs.length (ln * esz) then
            if Nat.beq b ln then some (.v (.pl ((cs.take (b * esz)).drop (a * esz)) (b - a) (sliceTk tk a)), L, h)
            else if decide (tk = .nil) then none
            else some (.v (.pl ((cs.take (b * esz)).drop (a * esz)) (b - a) .no), L, h)
          else none
        | none => none
      | _, _ => none
    | .v (.sl id off ln e) => match mx, bound (evo T hi) ln ln with
      | none, some b => match bound (evo T lo) 0 b with
        | some a => if Nat.beq e esz then some (.v (.sl id (off + a * esz) (b - a) esz), L, h) else none
        | none => none
      | _, _ => none
    | _ => none
  | .sliceA n esz x lo hi => match ev T x with
    | .v (.ptr id off) => match bound (evo T hi) n n with
      | some b => match bound (evo T lo) 0 b with
        | some a => match h.get id with
          | some (.cells c) => if Nat.ble (off + n * esz) c.length then some (.v (.sl id (off + a * esz) (b - a) esz), L, h) else none
          | _ => none
        | none => none
      | none => none
    | _ => none
  | .lookup kt z ok m k => match eva T m, eva T k with
    | some (.map id), some key => match h.get id with
      | some (.map es) => match ktOk kt key, mfind key es with
        | true, some r => if ok then some (.v (.tup [r.getD z, .bool r.isSome]), L, h) else some (.v (r.getD z), L, h)
        | _, _ => none
      | _ => none
    | _, _ => none
  | .mupd kt m k x => match eva T m, eva T k, eva T x with
    | some (.map id), some key, some v => match h.get id with
      | some (.map es) => match ktOk kt key, mfind key es with
        | true, some _ => some (.undef, L, h.put id (.map (mput key v es)))
        | _, _ => none
      | _ => none
    | _, _, _ => none
  | .ins kt m k x => match eva T m, eva T k, eva T x with
    | some (.map id), some key, some v => match insF kt h id key v with
      | some h' => some (.undef, L, h')
      | none => none
    | _, _, _ => none
  | .ment kt z m k => match eva T m, eva T k with
    | some (.map id), some key => match h.get id with
      | some (.map es) => match ktOk kt key, mfind key es with
        | true, some (some v) => some (.st id key (h.ver + 1) false, L, h.put id (.map (mput key v es)))
        | true, some none => some (.st id key (h.ver + 1) false, L, h.put id (.map (mput key z es)))
        | _, _ => none
      | _ => none
    | _, _ => none
  | .estore m s x => match eva T m, ev T s, eva T x with
    | some (.map id), .st id' key ver true, some v => match h.get id with
      | some (.map es) => if Nat.beq id id' && Nat.beq ver h.ver then some (.undef, L, h.put id (.map (mput key v es))) else none
      | _ => none
    | _, _, _ => none
  | .mkmap => some (.v (.map h.next), L, h.add (.map []))
  | .mkslice esz bytes z l c => match toIdx (ev T l), toIdx (ev T c) with
    | some n, some m => if 0 ≤ n ∧ n ≤ m ∧ Nat.ble (m.toNat * bytes) most ∧ Nat.ble m.toNat most then
        some (.v (.sl h.next 0 n.toNat esz), L, h.add (.cells (repeatC z m.toNat))) else none
    | _, _ => none
  | .mkfun g first cap => match evas T first, evas T cap with
    | some a, some b => some (.v (.func g a b), L, h)
    | _, _ => none
  | .extract i x => match ev T x with
    | .v (.tup vs) => ret1 L h (vs[i]?)
    | .st id key ver false => if Nat.beq i 1 then some (.st id key ver true, L, h) else none
    | _ => none
  | .app heap esz bytes s x => match eva T s, eva T x with
    | some s, some x => match append heap esz bytes h s x with
      | some (v, h') => some (.v v, L, h')
      | none => none
    | _, _ => none
  | .appS heap esz bytes s x => match eva T s, eva T x with
    | some s, some x => match appFlat esz h s x, append heap esz bytes h s x with
      | true, some (v, h') => some (.v v, L, h')
      | _, _ => none
    | _, _ => none
  | .clr esz z x => match ev T x with
    | .v (.sl id off ln e) => match h.get id with
      | some (.cells c) => if Nat.beq e esz && Nat.ble 1 ln && Nat.ble (off + (repeatC z ln).length) c.length && (repeatC z ln).all AV.one then some (.undef, L, h.put id (.cells (splice c off (repeatC z ln)))) else none
      | _ => none
    | .v (.pl _ 0 _) => some (.undef, L, h)
    | _ => none
  | .len ty x => match ty, ev T x with
    | 0, .v (.str s) => some (.v (.int .i64 s.length), L, h)
    | 1, .v (.pl _ n _) => some (.v (.int .i64 n), L, h)
    | 1, .v (.sl _ _ n _) => some (.v (.int .i64 n), L, h)
    | 2, .v (.map id) => match h.get id with
      | some (.map es) => some (.v (.int .i64 es.length), L, h)
      | _ => none
    | 2, .v .nilm => some (.v (.int .i64 0), L, h)
    | _, _ => none
  | .max xs => ret1 L h ((evas T xs).bind (fold1 max2))
  | .min xs => ret1 L h ((evas T xs).bind (fold1 min2))
  | .call _ _ => none

/-! ### code -/
def putT (T : List TV) (d : Option Nat) (v : TV) : List TV :=
  match d with
  | some k => lset T k v
  | none => T

/-- Who is called, with what. -/
def callee (T : List TV) (f : AOpd) (args : List AOpd) : Option (Nat × List AV) :=
  match eva T f, evas T args with
  | some (.func g first cap), some as => some (g, (first ++ as) ++ cap)
  | _, _ => none

/-- What a called function comes to, by the choices that are still to be made. -/
abbrev Caller := Nat → List AV → Heap → List Nat → Option (AV × Heap × List Nat)

def wantedA (T : List TV) : Option (Nat × Bool) → Bool
  | none => true
  | some (k, b) => match lget T k with
    | .v (.bool c) => c == b
    | _ => false

def Heap.empty : Heap := ⟨[], 0, 0⟩

/-- The operations that read memory or the frame's variables alone. -/
def AOp.reads : AOp → Bool
  | .load _ _ _ | .loadS _ _ _ | .lookup _ _ _ _ _ | .bstr _ | .sliceA _ _ _ _ _ => true
  | .len ty _ => Nat.beq ty 2
  | _ => false
def hideB (L : Boxes) : List Nat → Boxes
  | [] => L
  | k :: r => hideB (bset L k []) r

/-- What is read is read without what is hidden; what is said to be stored in a slot's variable is. -/
def semX (o : AOper) (T : List TV) (L : Boxes) (H : Heap) : R :=
  if o.op.reads then match o.op.sem o.dst T (hideB L o.hide) (if o.nh then Heap.empty else H) with
    | some (v, _, _) => some (v, L, H)
    | none => none
  else match o.op, o.hide with
    | .store n a x, [k] => match ev T a with
      | .bx k' _ _ => if Nat.beq k' k then AOp.sem o.dst (.store n a x) T L H else none
      | _ => none
    | op, _ => op.sem o.dst T L H

/-- What an operation comes to: its result, the frame's variables, the memory, the choices left. -/
def opF (call : Caller) (o : AOper) (T : List TV) (L : Boxes) (H : Heap) (om : List Nat) : Option (TV × Boxes × Heap × List Nat) :=
  if wantedA T o.guard then
    match o.op with
    | .call f args => match callee T f args with
      | some (g, as) => match call g as H om with
        | some (v, h, om') => some (.v v, L, { h with ver := h.ver + 1 }, om')
        | none => none
      | none => none
    | _ => match semX o T L H with
      | some (v, L', H') => some (v, L', H', om)
      | none => none
  else some (.undef, L, H, om)

def step (call : Caller) (o : AOper) (s : St) : Option St :=
  match opF call o s.T s.L s.H s.om with
  | some (v, L, h, om) => some ⟨putT s.T o.dst v, L, h, om⟩
  | none => none

def steps (call : Caller) : List AOper → St → Option St
  | [], s => some s
  | o :: r, s => match step call o s with
    | some s' => steps call r s'
    | none => none

inductive Ex where
  | normal | exit (id : Nat) | ret
  deriving DecidableEq, Repr, Inhabited

def frzT (s : St) : List Nat → Option St
  | [] => some s
  | k :: r => match lget s.T k with
    | .v a => let (a', h) := freezeAll s.H a; frzT ⟨lset s.T k (.v a'), s.L, h, s.om⟩ r
    | _ => none

def loopN (body : St → Option (Ex × St)) : Nat → St → Option (Ex × St)
  | 0, _ => none
  | n + 1, s => match body s with
    | some (.normal, s') => loopN body n s'
    | r => r

def exec (call : Caller) (n : Nat) : ACode → St → Option (Ex × St)
  | .skip, s => some (.normal, s)
  | .ops l _, s => (steps call l s).map fun s' => (.normal, s')
  | .frz ks, s => (frzT s ks).map fun s' => (.normal, s')
  | .seq a b, s => match exec call n a s with
    | some (.normal, s') => exec call n b s'
    | r => r
  | .cond c a b, s => match ev s.T c with
    | .v (.bool true) => exec call n a s
    | .v (.bool false) => exec call n b s
    | _ => none
  | .block id b, s => match exec call n b s with
    | some (.exit i, s') => if Nat.beq i id then some (.normal, s') else some (.exit i, s')
    | r => r
  | .loop b, s => loopN (exec call n b) n s
  | .exit id, s => some (.exit id, s)
  | .ret, s => some (.ret, s)

def resultA (s : St) : ARes → Option AV
  | .tmp k => match lget s.T k with
    | .v a => some a
    | _ => none
  | .cell k n agg => match cellsAt s.L s.H (lget s.T k) with
    | some cs => asV agg n cs
    | none => none
def resultsA (s : St) : List ARes → Option (List AV)
  | [] => some []
  | r :: rs => match resultA s r, resultsA s rs with
    | some a, some l => some (a :: l)
    | _, _ => none
def oneOf : List AV → AV
  | [a] => a
  | l => .tup l

def start (args : List AV) (h : Heap) (om : List Nat) : St := ⟨args.map .v, .lf, h, om⟩

def finish (f : AFunc) : Option (Ex × St) → Option (AV × Heap × List Nat)
  | some (.exit _, _) => none
  | some (_, s) => match resultsA s f.results with
    | some l => if f.frz then some ((freezeAll s.H (oneOf l)).1, (freezeAll s.H (oneOf l)).2, s.om) else some (oneOf l, s.H, s.om)
    | none => none
  | none => none

/-! ### going through a map: three more functions -/
def rangeId : Nat := 1000001
def nextId : Nat := 1000002
def entryId : Nat := 1000003
/-- The entries that are still to come. -/
def unseen (seen : List AV) (es : List (AV × AV)) : List (AV × AV) := es.filter fun e => !(seen.any fun k => match keyEq k e.1 with | some true => true | _ => false)
def rangeF (h : Heap) (x : AV) : Option (AV × Heap) :=
  match x with
  | .map id => match h.get id with
    | some (.map es) => some (.ptr h.next 0, h.add (.iter (some id) [] es.length))
    | _ => none
  | .nilm => some (.ptr h.next 0, h.add (.iter none [] 0))
  | _ => none
def pickE : List (AV × AV) → List Nat → Option ((AV × AV) × List Nat)
  | [], _ => none
  | [e], om => some (e, om)
  | e :: _ :: _, [] => some (e, [])
  | e :: _ :: _, 0 :: om => some (e, om)
  | _ :: e :: r, (_ + 1) :: om => pickE (e :: r) om
def nextF (h : Heap) (x : AV) (om : List Nat) : Option (AV × Heap × List Nat) :=
  match x with
  | .ptr i 0 => match h.get i with
    | some (.iter none _ _) => some (.tup [.bool false], h, om)
    | some (.iter (some m) seen cnt) => match h.get m with
      | some (.map es) => if Nat.beq es.length cnt && seen.all (fun k => (mfind k es).isSome) then
          match unseen seen es with
          | [] => some (.tup [.bool false], h, om)
          | l => match pickE l om with
            | some (e, om') => some (.tup [.bool true, e.1, e.2], h.put i (.iter (some m) (e.1 :: seen) cnt), om')
            | none => none
        else none
      | _ => none
    | _ => none
  | _ => none
def entryF (h : Heap) (x : AV) : Option AV :=
  match x with
  | .ptr i 0 => match h.get i with
    | some (.iter (some m) (k :: _) cnt) => match h.get m with
      | some (.map es) => match Nat.beq es.length cnt, mfind k es with
        | true, some (some v) => some (.tup [k, v])
        | _, _ => none
      | _ => none
    | _ => none
  | _ => none
def pseudo (g : Nat) (args : List AV) (h : Heap) (om : List Nat) : Option (AV × Heap × List Nat) :=
  match args with
  | [x] => if Nat.beq g nextId then nextF h x om
      else if Nat.beq g rangeId then (match rangeF h x with | some (v, h') => some (v, h', om) | none => none)
      else if Nat.beq g entryId then (match entryF h x with | some v => some (v, h, om) | none => none)
      else none
  | _ => none

def callN (prog : Nat → Option AFunc) : Nat → Caller
  | 0 => fun _ _ _ _ => none
  | n + 1 => fun g args h om => match prog g with
    | some f => if Nat.beq args.length f.np then finish f (exec (callN prog n) n f.body (start args h om)) else none
    | none => pseudo g args h om

end Go.Am
