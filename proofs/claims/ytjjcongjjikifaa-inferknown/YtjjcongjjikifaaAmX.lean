/- PRINTED by genx.py: the interpreter once more, for the kernel: explicit recursors, the slots in a tree, values worked out early. The same results: `callX_eq`. -/
import Derived.Test.YtjjcongjjikifaaAmW
set_option linter.unusedVariables false
set_option linter.unusedSimpArgs false
namespace Go.Am
universe u

noncomputable def evaE (E : AOpd → TV) (x : AOpd) : Option AV := @TV.rec (fun _ => Option AV) (fun a => some a) (fun _ _ _ => none) (fun _ _ _ _ => none) (E x)
theorem evaE_eq (T : List TV) : evaE (ev T) = eva T := by
  funext x; unfold evaE eva; cases ev T x <;> rfl
noncomputable def evasE (E : AOpd → TV) : List AOpd → Option (List AV) := fun l => @List.rec AOpd (fun _ => Option (List AV)) (some []) (fun x _ ih => match evaE E x, ih with
    | some a, some l => some (a :: l)
    | _, _ => none) l
theorem evasE_eq (T : List TV) : evasE (ev T) = evas T := by
  funext l
  induction l with
  | nil => rfl
  | cons x r ih =>
    unfold evas
    rw [← ih]
    show (match evaE (ev T) x, evasE (ev T) r with | some a, some l => some (a :: l) | _, _ => none) = _
    rw [evaE_eq]
    rfl
def evoE (E : AOpd → TV) (x : Option AOpd) : Option TV := x.map E
theorem evoE_eq (T : List TV) : evoE (ev T) = evo T := rfl
noncomputable def fillE (E : AOpd → TV) (z : List AV) (l : List (Nat × Nat × AOpd)) : Option (List AV) := @List.rec (Nat × Nat × AOpd) (fun _ => List AV → Option (List AV)) (fun z => some z) (fun p _ ih z => match evaE E p.2.2 with
    | some a => if Nat.beq a.cells.length p.2.1 && Nat.ble (p.1 + p.2.1) z.length then fList (splice z p.1 a.cells) ih else none
    | none => none) l z
theorem fillE_eq (T : List TV) : fillE (ev T) = fillA T := by
  funext z l
  induction l generalizing z with
  | nil => rfl
  | cons p r ih =>
    obtain ⟨off, n, x⟩ := p
    unfold fillA
    show (match evaE (ev T) x with | some a => if Nat.beq a.cells.length n && Nat.ble (off + n) z.length then fList (splice z off a.cells) (fun z => fillE (ev T) z r) else none | none => none) = _
    rw [evaE_eq]
    cases eva T x with
    | none => rfl
    | some a => simp only [fList_eq, ih]

noncomputable def bsetN (v x : List (Nat × List AV)) (l r : Boxes) (ih : Boxes → Nat → (Boxes → R) → R) (k : Nat) (c : Boxes → R) : R := @Nat.rec (fun _ => R) (c (.nd v l r)) (fun k' _ => @Bool.rec (fun _ => R) (ih r (k' / 2) fun r' => c (.nd x l r')) (ih l (k' / 2) fun l' => c (.nd x l' r)) (Nat.beq (k' % 2) 0)) k
/-- A slot's variables are laid; what stands on the way is worked out. -/
noncomputable def bsetK (v : List (Nat × List AV)) (f : Nat) : Boxes → Nat → (Boxes → R) → R := @Nat.rec (fun _ => Boxes → Nat → (Boxes → R) → R) (fun t _ c => c t) (fun _ ih t k c => @Boxes.rec (fun _ => R) (bsetN v [] .lf .lf ih k c) (fun x l r _ _ => bsetN v x l r ih k c) t) f
theorem bsetK_eq (v : List (Nat × List AV)) : ∀ (f : Nat) (t : Boxes) (k : Nat) (c : Boxes → R), bsetK v f t k c = c (bsetF v f t k)
  | 0, t, k, c => rfl
  | f + 1, t, k, c => by
    have key : ∀ x l r, bsetN v x l r (bsetK v f) k c = c (match k with
        | 0 => .nd v l r
        | k + 1 => match Nat.beq (k % 2) 0 with
          | true => .nd x (bsetF v f l (k / 2)) r
          | false => .nd x l (bsetF v f r (k / 2))) := by
      intro x l r
      cases k with
      | zero => rfl
      | succ k =>
        show @Bool.rec (fun _ => R) (bsetK v f r (k / 2) fun r' => c (.nd x l r')) (bsetK v f l (k / 2) fun l' => c (.nd x l' r)) (Nat.beq (k % 2) 0) = _
        rw [bsetK_eq v f, bsetK_eq v f]
        simp only []
        cases Nat.beq (k % 2) 0 <;> rfl
    cases t with
    | lf =>
      show bsetN v [] .lf .lf (bsetK v f) k c = _
      rw [key]; cases k <;> rfl
    | nd x l r =>
      show bsetN v x l r (bsetK v f) k c = _
      rw [key]; cases k <;> rfl
noncomputable def newBoxK (L : Boxes) (h : Heap) (dst : Option Nat) (priv : Bool) (c : List AV) : R :=
  match priv with
  | true => match dst with
    | some k => fNat (bmax (bget L k)) fun g => fAVs c fun c' => bsetK ((g, c') :: bget L k) (Nat.succ k) L k fun L' => some (.bx k g 0, L', h)
    | none => none
  | false => fAVs c fun c' => some (.v (.ptr h.next 0), L, h.add (.cells c'))
theorem newBoxK_eq : newBoxK = newBox := by
  funext L h dst priv c
  unfold newBoxK newBox
  cases priv with
  | false => simp only [fAVs_eq]; rfl
  | true => cases dst with
    | none => rfl
    | some k => simp only [fNat_eq, fAVs_eq, bsetK_eq]; rfl
theorem bsetK_set (v : List (Nat × List AV)) (t : Boxes) (k : Nat) (c : Boxes → R) : bsetK v (Nat.succ k) t k c = c (bset t k v) := bsetK_eq v (k + 1) t k c

noncomputable def x_mv (x : AOpd) (dst : Option Nat) (E : AOpd → TV) (L : Boxes) (h : Heap) : R := some (E x, L, h)
noncomputable def x_pick (c : AOpd) (a : AOpd) (b : AOpd) (dst : Option Nat) (E : AOpd → TV) (L : Boxes) (h : Heap) : R := match E c with
    | .v (.bool t) => some (if t then E a else E b, L, h)
    | _ => none
noncomputable def x_alloc (priv : Bool) (z : List AV) (dst : Option Nat) (E : AOpd → TV) (L : Boxes) (h : Heap) : R := newBoxK L h dst priv z
noncomputable def x_box (priv : Bool) (x : AOpd) (dst : Option Nat) (E : AOpd → TV) (L : Boxes) (h : Heap) : R := match evaE E x with
    | some a => newBoxK L h dst priv a.cells
    | none => none
noncomputable def x_build (z : List AV) (ps : List (Nat × Nat × AOpd)) (dst : Option Nat) (E : AOpd → TV) (L : Boxes) (h : Heap) : R := ret1 L h ((fillE E z ps).map .agg)
noncomputable def x_bslice (heap : Bool) (ln : Nat) (z : List AV) (ps : List (Nat × Nat × AOpd)) (dst : Option Nat) (E : AOpd → TV) (L : Boxes) (h : Heap) : R := match fillE E z ps with
    | some cs => if heap then
        if Nat.beq ln 0 then none else some (.v (.sl h.next 0 ln (cs.length / ln)), L, h.add (.cells cs))
      else some (.v (.pl cs ln .exact), L, h)
    | none => none
noncomputable def x_load (agg : Bool) (n : Nat) (x : AOpd) (dst : Option Nat) (E : AOpd → TV) (L : Boxes) (h : Heap) : R := match cellsAt L h (E x) with
    | some cs => ret1 L h (asV agg n cs)
    | none => none
noncomputable def x_loadS (agg : Bool) (n : Nat) (x : AOpd) (dst : Option Nat) (E : AOpd → TV) (L : Boxes) (h : Heap) : R := match E x with
    | .v (.ptr id off) => match h.get id with
      | some (.cells c) => if Nat.ble off c.length && (Nat.blt id h.next && !(c.all AV.scalar)) then ret1 L h (asV agg n (c.drop off)) else none
      | _ => none
    | _ => none
noncomputable def x_store (n : Nat) (a : AOpd) (x : AOpd) (dst : Option Nat) (E : AOpd → TV) (L : Boxes) (h : Heap) : R := match E a, evaE E x with
    | .bx k g off, some v => match bgen (bget L k) g with
      | some c => if Nat.beq v.cells.length n && Nat.ble (off + n) c.length && v.cells.all AV.one then fAVs (splice c off v.cells) fun c2 => fList (bput (bget L k) g c2) fun l2 => bsetK l2 (Nat.succ k) L k fun L2 => some (.undef, L2, h) else none
      | none => none
    | .v (.ptr id off), some v => match h.get id with
      | some (.cells c) => if Nat.beq v.cells.length n && Nat.ble (off + n) c.length && v.cells.all AV.one then fList (splice c off v.cells) fun c2 => some (.undef, L, h.put id (.cells c2)) else none
      | _ => none
    | _, _ => none
noncomputable def x_nilck (x : AOpd) (dst : Option Nat) (E : AOpd → TV) (L : Boxes) (h : Heap) : R := match E x with
    | .bx k g off => some (.bx k g off, L, h)
    | .v (.ptr id off) => some (.v (.ptr id off), L, h)
    | .v (.fp cs) => some (.v (.fp cs), L, h)
    | _ => none
noncomputable def x_bin (ty : BTy) (op : BinOp) (x : AOpd) (y : AOpd) (dst : Option Nat) (E : AOpd → TV) (L : Boxes) (h : Heap) : R := match evaE E x, evaE E y with
    | some a, some b => ret1 L h (binK ty op a b)
    | _, _ => none
noncomputable def x_not (x : AOpd) (dst : Option Nat) (E : AOpd → TV) (L : Boxes) (h : Heap) : R := match E x with
    | .v (.bool b) => some (.v (.bool (!b)), L, h)
    | _ => none
noncomputable def x_neg (x : AOpd) (dst : Option Nat) (E : AOpd → TV) (L : Boxes) (h : Heap) : R := match E x with
    | .v (.int k n) => some (.v (.int k (wrapK k (0 - n))), L, h)
    | _ => none
noncomputable def x_bnot (x : AOpd) (dst : Option Nat) (E : AOpd → TV) (L : Boxes) (h : Heap) : R := match E x with
    | .v (.int k n) => ret1 L h (binInt .xor k (if k.signed then -1 else k.max) n)
    | _ => none
noncomputable def x_cint (k : IntKind) (x : AOpd) (dst : Option Nat) (E : AOpd → TV) (L : Boxes) (h : Heap) : R := match E x with
    | .v (.int _ n) => some (.v (.int k (wrapK k n)), L, h)
    | _ => none
noncomputable def x_cstr (x : AOpd) (dst : Option Nat) (E : AOpd → TV) (L : Boxes) (h : Heap) : R := match E x with
    | .v (.str s) => some (.v (.str s), L, h)
    | _ => none
noncomputable def x_sbytes (x : AOpd) (dst : Option Nat) (E : AOpd → TV) (L : Boxes) (h : Heap) : R := match E x with
    | .v (.str s) => fAVs (s.map fun b => AV.int .u8 b.toNat) fun c2 => some (.v (.pl c2 s.length .no), L, h)
    | _ => none
noncomputable def x_bstr (x : AOpd) (dst : Option Nat) (E : AOpd → TV) (L : Boxes) (h : Heap) : R := match evaE E x with
    | some a => match notStr a, sliceCells h 1 a with
      | true, some (cs, _) => ret1 L h ((unBytes cs).map .str)
      | _, _ => none
    | none => none
noncomputable def x_faddr (o : Nat) (x : AOpd) (dst : Option Nat) (E : AOpd → TV) (L : Boxes) (h : Heap) : R := match E x with
    | .bx k g off => some (.bx k g (off + o), L, h)
    | .v (.ptr id off) => some (.v (.ptr id (off + o)), L, h)
    | .v (.fp cs) => if Nat.ble o cs.length then some (.v (.fp (cs.drop o)), L, h) else none
    | _ => none
noncomputable def x_field (agg : Bool) (off : Nat) (n : Nat) (x : AOpd) (dst : Option Nat) (E : AOpd → TV) (L : Boxes) (h : Heap) : R := match E x with
    | .v (.agg cs) => ret1 L h (asV agg n (cs.drop off))
    | _ => none
noncomputable def x_iaddr (arr : Option Nat) (esz : Nat) (x : AOpd) (i : AOpd) (dst : Option Nat) (E : AOpd → TV) (L : Boxes) (h : Heap) : R := match toIdx (E i) with
    | none => none
    | some i => match arr with
      | some n => match within i n, E x with
        | some j, .bx k g off => some (.bx k g (off + j * esz), L, h)
        | some j, .v (.ptr id off) => some (.v (.ptr id (off + j * esz)), L, h)
        | some j, .v (.fp cs) => if Nat.ble (j * esz) cs.length then some (.v (.fp (cs.drop (j * esz))), L, h) else none
        | _, _ => none
      | none => match E x with
        | .v (.pl cs ln _) => match within i ln with
          | some j => if Nat.ble ((j + 1) * esz) cs.length then some (.v (.fp ((cs.drop (j * esz)).take esz)), L, h) else none
          | none => none
        | .v (.sl id off ln e) => match within i ln with
          | some j => if Nat.beq e esz then some (.v (.ptr id (off + j * esz)), L, h) else none
          | none => none
        | _ => none
noncomputable def x_index (x : AOpd) (i : AOpd) (dst : Option Nat) (E : AOpd → TV) (L : Boxes) (h : Heap) : R := match E x, toIdx (E i) with
    | .v (.str s), some i => match within i s.length with
      | some j => ret1 L h (s[j]?.map fun b => AV.int .u8 b.toNat)
      | none => none
    | _, _ => none
noncomputable def x_sliceS (x : AOpd) (lo : Option AOpd) (hi : Option AOpd) (dst : Option Nat) (E : AOpd → TV) (L : Boxes) (h : Heap) : R := match E x with
    | .v (.str s) => match bound (evoE E hi) s.length s.length with
      | some b => match bound (evoE E lo) 0 b with
        | some a => some (.v (.str ((s.take b).drop a)), L, h)
        | none => none
      | none => none
    | _ => none
noncomputable def x_sliceL (esz : Nat) (x : AOpd) (lo : Option AOpd) (hi : Option AOpd) (mx : Option AOpd) (dst : Option Nat) (E : AOpd → TV) (L : Boxes) (h : Heap) : R := match E x with
    | .v (.pl cs ln tk) => match mx, bound (evoE E hi) ln ln with
      | none, some b => match bound (evoE E lo) 0 b with
        | some a => if Nat.beq cs.length (ln * esz) then
            if Nat.beq b ln then some (.v (.pl ((cs.take (b * esz)).drop (a * esz)) (b - a) (sliceTk tk a)), L, h)
            else if decide (tk = .nil) then none
            else some (.v (.pl ((cs.take (b * esz)).drop (a * esz)) (b - a) .no), L, h)
          else none
        | none => none
      | _, _ => none
    | .v (.sl id off ln e) => match mx, bound (evoE E hi) ln ln with
      | none, some b => match bound (evoE E lo) 0 b with
        | some a => if Nat.beq e esz then some (.v (.sl id (off + a * esz) (b - a) esz), L, h) else none
        | none => none
      | _, _ => none
    | _ => none
noncomputable def x_sliceA (n : Nat) (esz : Nat) (x : AOpd) (lo : Option AOpd) (hi : Option AOpd) (dst : Option Nat) (E : AOpd → TV) (L : Boxes) (h : Heap) : R := match E x with
    | .v (.ptr id off) => match bound (evoE E hi) n n with
      | some b => match bound (evoE E lo) 0 b with
        | some a => match h.get id with
          | some (.cells c) => if Nat.ble (off + n * esz) c.length then some (.v (.sl id (off + a * esz) (b - a) esz), L, h) else none
          | _ => none
        | none => none
      | none => none
    | _ => none
noncomputable def x_lookup (kt : KT) (z : AV) (ok : Bool) (m : AOpd) (k : AOpd) (dst : Option Nat) (E : AOpd → TV) (L : Boxes) (h : Heap) : R := match evaE E m, evaE E k with
    | some (.map id), some key => match h.get id with
      | some (.map es) => match ktOk kt key, mfind key es with
        | true, some r => if ok then some (.v (.tup [r.getD z, .bool r.isSome]), L, h) else some (.v (r.getD z), L, h)
        | _, _ => none
      | _ => none
    | _, _ => none
noncomputable def x_mupd (kt : KT) (m : AOpd) (k : AOpd) (x : AOpd) (dst : Option Nat) (E : AOpd → TV) (L : Boxes) (h : Heap) : R := match evaE E m, evaE E k, evaE E x with
    | some (.map id), some key, some v => match h.get id with
      | some (.map es) => match ktOk kt key, mfind key es with
        | true, some _ => fPs (mput key v es) fun es2 => some (.undef, L, h.put id (.map es2))
        | _, _ => none
      | _ => none
    | _, _, _ => none
noncomputable def x_ins (kt : KT) (m : AOpd) (k : AOpd) (x : AOpd) (dst : Option Nat) (E : AOpd → TV) (L : Boxes) (h : Heap) : R := match evaE E m, evaE E k, evaE E x with
    | some (.map id), some key, some v => match insF kt h id key v with
      | some h' => fAt id h' fun h2 => some (.undef, L, h2)
      | none => none
    | _, _, _ => none
noncomputable def x_ment (kt : KT) (z : AV) (m : AOpd) (k : AOpd) (dst : Option Nat) (E : AOpd → TV) (L : Boxes) (h : Heap) : R := match evaE E m, evaE E k with
    | some (.map id), some key => match h.get id with
      | some (.map es) => match ktOk kt key, mfind key es with
        | true, some (some v) => fPs (mput key v es) fun es2 => some (.st id key (h.ver + 1) false, L, h.put id (.map es2))
        | true, some none => fPs (mput key z es) fun es2 => some (.st id key (h.ver + 1) false, L, h.put id (.map es2))
        | _, _ => none
      | _ => none
    | _, _ => none
noncomputable def x_estore (m : AOpd) (s : AOpd) (x : AOpd) (dst : Option Nat) (E : AOpd → TV) (L : Boxes) (h : Heap) : R := match evaE E m, E s, evaE E x with
    | some (.map id), .st id' key ver true, some v => match h.get id with
      | some (.map es) => if Nat.beq id id' && Nat.beq ver h.ver then fPs (mput key v es) fun es2 => some (.undef, L, h.put id (.map es2)) else none
      | _ => none
    | _, _, _ => none
noncomputable def x_mkmap (dst : Option Nat) (E : AOpd → TV) (L : Boxes) (h : Heap) : R := some (.v (.map h.next), L, h.add (.map []))
noncomputable def x_mkslice (esz : Nat) (bytes : Nat) (z : List AV) (l : AOpd) (c : AOpd) (dst : Option Nat) (E : AOpd → TV) (L : Boxes) (h : Heap) : R := match toIdx (E l), toIdx (E c) with
    | some n, some m => if 0 ≤ n ∧ n ≤ m ∧ Nat.ble (m.toNat * bytes) most ∧ Nat.ble m.toNat most then
        fList (repeatC z m.toNat) fun c2 => some (.v (.sl h.next 0 n.toNat esz), L, h.add (.cells c2)) else none
    | _, _ => none
noncomputable def x_mkfun (g : Nat) (first : List AOpd) (cap : List AOpd) (dst : Option Nat) (E : AOpd → TV) (L : Boxes) (h : Heap) : R := match evasE E first, evasE E cap with
    | some a, some b => some (.v (.func g a b), L, h)
    | _, _ => none
noncomputable def x_extract (i : Nat) (x : AOpd) (dst : Option Nat) (E : AOpd → TV) (L : Boxes) (h : Heap) : R := match E x with
    | .v (.tup vs) => ret1 L h (vs[i]?)
    | .st id key ver false => if Nat.beq i 1 then some (.st id key ver true, L, h) else none
    | _ => none
noncomputable def x_app (heap : Bool) (esz : Nat) (bytes : Nat) (s : AOpd) (x : AOpd) (dst : Option Nat) (E : AOpd → TV) (L : Boxes) (h : Heap) : R := match evaE E s, evaE E x with
    | some s, some x => match append heap esz bytes h s x with
      | some (v, h') => fNewS h' fun h2 => some (.v v, L, h2)
      | none => none
    | _, _ => none
noncomputable def x_appS (heap : Bool) (esz : Nat) (bytes : Nat) (s : AOpd) (x : AOpd) (dst : Option Nat) (E : AOpd → TV) (L : Boxes) (h : Heap) : R := match evaE E s, evaE E x with
    | some s, some x => match appFlat esz h s x, append heap esz bytes h s x with
      | true, some (v, h') => fNewS h' fun h2 => some (.v v, L, h2)
      | _, _ => none
    | _, _ => none
noncomputable def x_clr (esz : Nat) (z : List AV) (x : AOpd) (dst : Option Nat) (E : AOpd → TV) (L : Boxes) (h : Heap) : R := match E x with
    | .v (.sl id off ln e) => match h.get id with
      | some (.cells c) => if Nat.beq e esz && Nat.ble 1 ln && Nat.ble (off + (repeatC z ln).length) c.length && (repeatC z ln).all AV.one then fList (splice c off (repeatC z ln)) fun c2 => some (.undef, L, h.put id (.cells c2)) else none
      | _ => none
    | .v (.pl _ 0 _) => some (.undef, L, h)
    | _ => none
noncomputable def x_len (ty : Nat) (x : AOpd) (dst : Option Nat) (E : AOpd → TV) (L : Boxes) (h : Heap) : R := match ty, E x with
    | 0, .v (.str s) => some (.v (.int .i64 s.length), L, h)
    | 1, .v (.pl _ n _) => some (.v (.int .i64 n), L, h)
    | 1, .v (.sl _ _ n _) => some (.v (.int .i64 n), L, h)
    | 2, .v (.map id) => match h.get id with
      | some (.map es) => some (.v (.int .i64 es.length), L, h)
      | _ => none
    | 2, .v .nilm => some (.v (.int .i64 0), L, h)
    | _, _ => none
noncomputable def x_max (xs : List AOpd) (dst : Option Nat) (E : AOpd → TV) (L : Boxes) (h : Heap) : R := ret1 L h ((evasE E xs).bind (fold1 max2))
noncomputable def x_min (xs : List AOpd) (dst : Option Nat) (E : AOpd → TV) (L : Boxes) (h : Heap) : R := ret1 L h ((evasE E xs).bind (fold1 min2))
noncomputable def x_call (q_f : AOpd) (q_args : List AOpd) (dst : Option Nat) (E : AOpd → TV) (L : Boxes) (h : Heap) : R := none
noncomputable def semE (op : AOp) : Option Nat → (AOpd → TV) → Boxes → Heap → R := @AOp.rec (fun _ => Option Nat → (AOpd → TV) → Boxes → Heap → R) x_mv x_pick x_alloc x_box x_build x_bslice x_load x_loadS x_store x_nilck x_bin x_not x_neg x_bnot x_cint x_cstr x_sbytes x_bstr x_faddr x_field x_iaddr x_index x_sliceS x_sliceL x_sliceA x_lookup x_mupd x_ins x_ment x_estore x_mkmap x_mkslice x_mkfun x_extract x_app x_appS x_clr x_len x_max x_min x_call op
theorem semE_eq (op : AOp) (dst : Option Nat) (T : List TV) (L : Boxes) (h : Heap) : semE op dst (ev T) L h = op.sem dst T L h := by
  cases op
  case mv => show x_mv _ dst (ev T) L h = _; simp only [x_mv, AOp.sem, evaE_eq, evasE_eq, fillE_eq, evoE_eq, newBoxK_eq, bsetK_set, binK_eq, wrapK_eq, fAVs_eq, fList_eq, fPs_eq, fAt_eq, fNewS_eq] <;> rfl
  case pick => show x_pick _ _ _ dst (ev T) L h = _; simp only [x_pick, AOp.sem, evaE_eq, evasE_eq, fillE_eq, evoE_eq, newBoxK_eq, bsetK_set, binK_eq, wrapK_eq, fAVs_eq, fList_eq, fPs_eq, fAt_eq, fNewS_eq] <;> rfl
  case alloc => show x_alloc _ _ dst (ev T) L h = _; simp only [x_alloc, AOp.sem, evaE_eq, evasE_eq, fillE_eq, evoE_eq, newBoxK_eq, bsetK_set, binK_eq, wrapK_eq, fAVs_eq, fList_eq, fPs_eq, fAt_eq, fNewS_eq] <;> rfl
  case box => show x_box _ _ dst (ev T) L h = _; simp only [x_box, AOp.sem, evaE_eq, evasE_eq, fillE_eq, evoE_eq, newBoxK_eq, bsetK_set, binK_eq, wrapK_eq, fAVs_eq, fList_eq, fPs_eq, fAt_eq, fNewS_eq] <;> rfl
  case build => show x_build _ _ dst (ev T) L h = _; simp only [x_build, AOp.sem, evaE_eq, evasE_eq, fillE_eq, evoE_eq, newBoxK_eq, bsetK_set, binK_eq, wrapK_eq, fAVs_eq, fList_eq, fPs_eq, fAt_eq, fNewS_eq] <;> rfl
  case bslice => show x_bslice _ _ _ _ dst (ev T) L h = _; simp only [x_bslice, AOp.sem, evaE_eq, evasE_eq, fillE_eq, evoE_eq, newBoxK_eq, bsetK_set, binK_eq, wrapK_eq, fAVs_eq, fList_eq, fPs_eq, fAt_eq, fNewS_eq] <;> rfl
  case load => show x_load _ _ _ dst (ev T) L h = _; simp only [x_load, AOp.sem, evaE_eq, evasE_eq, fillE_eq, evoE_eq, newBoxK_eq, bsetK_set, binK_eq, wrapK_eq, fAVs_eq, fList_eq, fPs_eq, fAt_eq, fNewS_eq] <;> rfl
  case loadS => show x_loadS _ _ _ dst (ev T) L h = _; simp only [x_loadS, AOp.sem, evaE_eq, evasE_eq, fillE_eq, evoE_eq, newBoxK_eq, bsetK_set, binK_eq, wrapK_eq, fAVs_eq, fList_eq, fPs_eq, fAt_eq, fNewS_eq] <;> rfl
  case store => show x_store _ _ _ dst (ev T) L h = _; simp only [x_store, AOp.sem, evaE_eq, evasE_eq, fillE_eq, evoE_eq, newBoxK_eq, bsetK_set, binK_eq, wrapK_eq, fAVs_eq, fList_eq, fPs_eq, fAt_eq, fNewS_eq] <;> rfl
  case nilck => show x_nilck _ dst (ev T) L h = _; simp only [x_nilck, AOp.sem, evaE_eq, evasE_eq, fillE_eq, evoE_eq, newBoxK_eq, bsetK_set, binK_eq, wrapK_eq, fAVs_eq, fList_eq, fPs_eq, fAt_eq, fNewS_eq] <;> rfl
  case bin => show x_bin _ _ _ _ dst (ev T) L h = _; simp only [x_bin, AOp.sem, evaE_eq, evasE_eq, fillE_eq, evoE_eq, newBoxK_eq, bsetK_set, binK_eq, wrapK_eq, fAVs_eq, fList_eq, fPs_eq, fAt_eq, fNewS_eq] <;> rfl
  case not => show x_not _ dst (ev T) L h = _; simp only [x_not, AOp.sem, evaE_eq, evasE_eq, fillE_eq, evoE_eq, newBoxK_eq, bsetK_set, binK_eq, wrapK_eq, fAVs_eq, fList_eq, fPs_eq, fAt_eq, fNewS_eq] <;> rfl
  case neg => show x_neg _ dst (ev T) L h = _; simp only [x_neg, AOp.sem, evaE_eq, evasE_eq, fillE_eq, evoE_eq, newBoxK_eq, bsetK_set, binK_eq, wrapK_eq, fAVs_eq, fList_eq, fPs_eq, fAt_eq, fNewS_eq] <;> rfl
  case bnot => show x_bnot _ dst (ev T) L h = _; simp only [x_bnot, AOp.sem, evaE_eq, evasE_eq, fillE_eq, evoE_eq, newBoxK_eq, bsetK_set, binK_eq, wrapK_eq, fAVs_eq, fList_eq, fPs_eq, fAt_eq, fNewS_eq] <;> rfl
  case cint => show x_cint _ _ dst (ev T) L h = _; simp only [x_cint, AOp.sem, evaE_eq, evasE_eq, fillE_eq, evoE_eq, newBoxK_eq, bsetK_set, binK_eq, wrapK_eq, fAVs_eq, fList_eq, fPs_eq, fAt_eq, fNewS_eq] <;> rfl
  case cstr => show x_cstr _ dst (ev T) L h = _; simp only [x_cstr, AOp.sem, evaE_eq, evasE_eq, fillE_eq, evoE_eq, newBoxK_eq, bsetK_set, binK_eq, wrapK_eq, fAVs_eq, fList_eq, fPs_eq, fAt_eq, fNewS_eq] <;> rfl
  case sbytes => show x_sbytes _ dst (ev T) L h = _; simp only [x_sbytes, AOp.sem, evaE_eq, evasE_eq, fillE_eq, evoE_eq, newBoxK_eq, bsetK_set, binK_eq, wrapK_eq, fAVs_eq, fList_eq, fPs_eq, fAt_eq, fNewS_eq] <;> rfl
  case bstr => show x_bstr _ dst (ev T) L h = _; simp only [x_bstr, AOp.sem, evaE_eq, evasE_eq, fillE_eq, evoE_eq, newBoxK_eq, bsetK_set, binK_eq, wrapK_eq, fAVs_eq, fList_eq, fPs_eq, fAt_eq, fNewS_eq] <;> rfl
  case faddr => show x_faddr _ _ dst (ev T) L h = _; simp only [x_faddr, AOp.sem, evaE_eq, evasE_eq, fillE_eq, evoE_eq, newBoxK_eq, bsetK_set, binK_eq, wrapK_eq, fAVs_eq, fList_eq, fPs_eq, fAt_eq, fNewS_eq] <;> rfl
  case field => show x_field _ _ _ _ dst (ev T) L h = _; simp only [x_field, AOp.sem, evaE_eq, evasE_eq, fillE_eq, evoE_eq, newBoxK_eq, bsetK_set, binK_eq, wrapK_eq, fAVs_eq, fList_eq, fPs_eq, fAt_eq, fNewS_eq] <;> rfl
  case iaddr => show x_iaddr _ _ _ _ dst (ev T) L h = _; simp only [x_iaddr, AOp.sem, evaE_eq, evasE_eq, fillE_eq, evoE_eq, newBoxK_eq, bsetK_set, binK_eq, wrapK_eq, fAVs_eq, fList_eq, fPs_eq, fAt_eq, fNewS_eq] <;> rfl
  case index => show x_index _ _ dst (ev T) L h = _; simp only [x_index, AOp.sem, evaE_eq, evasE_eq, fillE_eq, evoE_eq, newBoxK_eq, bsetK_set, binK_eq, wrapK_eq, fAVs_eq, fList_eq, fPs_eq, fAt_eq, fNewS_eq] <;> rfl
  case sliceS => show x_sliceS _ _ _ dst (ev T) L h = _; simp only [x_sliceS, AOp.sem, evaE_eq, evasE_eq, fillE_eq, evoE_eq, newBoxK_eq, bsetK_set, binK_eq, wrapK_eq, fAVs_eq, fList_eq, fPs_eq, fAt_eq, fNewS_eq] <;> rfl
  case sliceL => show x_sliceL _ _ _ _ _ dst (ev T) L h = _; simp only [x_sliceL, AOp.sem, evaE_eq, evasE_eq, fillE_eq, evoE_eq, newBoxK_eq, bsetK_set, binK_eq, wrapK_eq, fAVs_eq, fList_eq, fPs_eq, fAt_eq, fNewS_eq] <;> rfl
  case sliceA => show x_sliceA _ _ _ _ _ dst (ev T) L h = _; simp only [x_sliceA, AOp.sem, evaE_eq, evasE_eq, fillE_eq, evoE_eq, newBoxK_eq, bsetK_set, binK_eq, wrapK_eq, fAVs_eq, fList_eq, fPs_eq, fAt_eq, fNewS_eq] <;> rfl
  case lookup => show x_lookup _ _ _ _ _ dst (ev T) L h = _; simp only [x_lookup, AOp.sem, evaE_eq, evasE_eq, fillE_eq, evoE_eq, newBoxK_eq, bsetK_set, binK_eq, wrapK_eq, fAVs_eq, fList_eq, fPs_eq, fAt_eq, fNewS_eq] <;> rfl
  case mupd => show x_mupd _ _ _ _ dst (ev T) L h = _; simp only [x_mupd, AOp.sem, evaE_eq, evasE_eq, fillE_eq, evoE_eq, newBoxK_eq, bsetK_set, binK_eq, wrapK_eq, fAVs_eq, fList_eq, fPs_eq, fAt_eq, fNewS_eq] <;> rfl
  case ins => show x_ins _ _ _ _ dst (ev T) L h = _; simp only [x_ins, AOp.sem, evaE_eq, evasE_eq, fillE_eq, evoE_eq, newBoxK_eq, bsetK_set, binK_eq, wrapK_eq, fAVs_eq, fList_eq, fPs_eq, fAt_eq, fNewS_eq] <;> rfl
  case ment => show x_ment _ _ _ _ dst (ev T) L h = _; simp only [x_ment, AOp.sem, evaE_eq, evasE_eq, fillE_eq, evoE_eq, newBoxK_eq, bsetK_set, binK_eq, wrapK_eq, fAVs_eq, fList_eq, fPs_eq, fAt_eq, fNewS_eq] <;> rfl
  case estore => show x_estore _ _ _ dst (ev T) L h = _; simp only [x_estore, AOp.sem, evaE_eq, evasE_eq, fillE_eq, evoE_eq, newBoxK_eq, bsetK_set, binK_eq, wrapK_eq, fAVs_eq, fList_eq, fPs_eq, fAt_eq, fNewS_eq] <;> rfl
  case mkmap => show x_mkmap dst (ev T) L h = _; simp only [x_mkmap, AOp.sem, evaE_eq, evasE_eq, fillE_eq, evoE_eq, newBoxK_eq, bsetK_set, binK_eq, wrapK_eq, fAVs_eq, fList_eq, fPs_eq, fAt_eq, fNewS_eq] <;> rfl
  case mkslice => show x_mkslice _ _ _ _ _ dst (ev T) L h = _; simp only [x_mkslice, AOp.sem, evaE_eq, evasE_eq, fillE_eq, evoE_eq, newBoxK_eq, bsetK_set, binK_eq, wrapK_eq, fAVs_eq, fList_eq, fPs_eq, fAt_eq, fNewS_eq] <;> rfl
  case mkfun => show x_mkfun _ _ _ dst (ev T) L h = _; simp only [x_mkfun, AOp.sem, evaE_eq, evasE_eq, fillE_eq, evoE_eq, newBoxK_eq, bsetK_set, binK_eq, wrapK_eq, fAVs_eq, fList_eq, fPs_eq, fAt_eq, fNewS_eq] <;> rfl
  case extract => show x_extract _ _ dst (ev T) L h = _; simp only [x_extract, AOp.sem, evaE_eq, evasE_eq, fillE_eq, evoE_eq, newBoxK_eq, bsetK_set, binK_eq, wrapK_eq, fAVs_eq, fList_eq, fPs_eq, fAt_eq, fNewS_eq] <;> rfl
  case app => show x_app _ _ _ _ _ dst (ev T) L h = _; simp only [x_app, AOp.sem, evaE_eq, evasE_eq, fillE_eq, evoE_eq, newBoxK_eq, bsetK_set, binK_eq, wrapK_eq, fAVs_eq, fList_eq, fPs_eq, fAt_eq, fNewS_eq] <;> rfl
  case appS => show x_appS _ _ _ _ _ dst (ev T) L h = _; simp only [x_appS, AOp.sem, evaE_eq, evasE_eq, fillE_eq, evoE_eq, newBoxK_eq, bsetK_set, binK_eq, wrapK_eq, fAVs_eq, fList_eq, fPs_eq, fAt_eq, fNewS_eq] <;> rfl
  case clr => show x_clr _ _ _ dst (ev T) L h = _; simp only [x_clr, AOp.sem, evaE_eq, evasE_eq, fillE_eq, evoE_eq, newBoxK_eq, bsetK_set, binK_eq, wrapK_eq, fAVs_eq, fList_eq, fPs_eq, fAt_eq, fNewS_eq] <;> rfl
  case len => show x_len _ _ dst (ev T) L h = _; simp only [x_len, AOp.sem, evaE_eq, evasE_eq, fillE_eq, evoE_eq, newBoxK_eq, bsetK_set, binK_eq, wrapK_eq, fAVs_eq, fList_eq, fPs_eq, fAt_eq, fNewS_eq] <;> rfl
  case max => show x_max _ dst (ev T) L h = _; simp only [x_max, AOp.sem, evaE_eq, evasE_eq, fillE_eq, evoE_eq, newBoxK_eq, bsetK_set, binK_eq, wrapK_eq, fAVs_eq, fList_eq, fPs_eq, fAt_eq, fNewS_eq] <;> rfl
  case min => show x_min _ dst (ev T) L h = _; simp only [x_min, AOp.sem, evaE_eq, evasE_eq, fillE_eq, evoE_eq, newBoxK_eq, bsetK_set, binK_eq, wrapK_eq, fAVs_eq, fList_eq, fPs_eq, fAt_eq, fNewS_eq] <;> rfl
  case call => rfl
end Go.Am
