/- How the abstract machine's values and memory stand for the model's. -/
import Derived.Test.YtjjcongjjikifaaAmP
import Derived.Orders
set_option linter.unusedVariables false
set_option linter.unusedSimpArgs false
namespace Go.Am

inductive All2 {α β : Type} (R : α → β → Prop) : List α → List β → Prop
  | nil : All2 R [] []
  | cons {a : α} {b : β} {l : List α} {m : List β} : R a b → All2 R l m → All2 R (a :: l) (b :: m)

abbrev Fm := FuncId → Option Nat
abbrev Ph := Nat → Option (Nat × Nat)
abbrev Ze := Nat → Nat
abbrev OId := Nat ⊕ (Nat × Nat)
abbrev Ps := OId → Option (Nat × Nat)
abbrev Lk := OId → Option AObj

def rowSize (w : World) (b : Nat) : Option Nat :=
  match w.heap[b]? with
  | some (.cells c _ _) => some c.size
  | _ => none

def cellAt (w : World) (b o : Nat) : Option Value := w.cell? ⟨b, o, none⟩

def TkR (φ : Ph) (w : World) (tk : Tk) (n ln cap b off : Nat) : Prop :=
  match tk with
  | .nil => False
  | .no => True
  | .exact => cap = ln
  | .live t esz => φ t = some (b, off + n) ∧ n = ln * esz ∧ ∃ sz, rowSize w b = some sz ∧ off + cap * esz ≤ sz

inductive VR (fm : Fm) (φ : Ph) (Z : Ze) (w : World) : AV → Value → Prop
  | bool (b : Bool) : VR fm φ Z w (.bool b) (.bool b)
  | int (k : IntKind) (n : Int) : VR fm φ Z w (.int k n) (.int k n)
  | str (s : List UInt8) : VR fm φ Z w (.str s) (.string ⟨⟨s⟩⟩)
  | nilp : VR fm φ Z w .nilp (.pointer none)
  | ptr (id off b e : Nat) (h : φ id = some (b, e)) : VR fm φ Z w (.ptr id off) (.pointer (some ⟨b, e + off, none⟩))
  | fp (cs : List AV) (b off : Nat) (vs : Nat → Value) (hz : off + cs.length ≤ Z b ∨ cs = []) (hc : ∀ i, i < cs.length → cellAt w b (off + i) = some (vs i))
      (hr : ∀ i (h : i < cs.length), VR fm φ Z w (cs[i]) (vs i)) : VR fm φ Z w (.fp cs) (.pointer (some ⟨b, off, none⟩))
  | sl (id off ln esz b e cap sz o : Nat) (h : φ id = some (b, e)) (hs : rowSize w b = some sz) (hcap : e + off + cap * esz ≤ sz) (hl : ln ≤ cap) (ho : o = e + off ∨ cap = 0) :
      VR fm φ Z w (.sl id off ln esz) (.slice (some ⟨b, o, none⟩) ln cap)
  | plnil : VR fm φ Z w (.pl [] 0 .nil) (.slice none 0 0)
  | pl (cs : List AV) (ln cap : Nat) (tk : Tk) (b off : Nat) (vs : Nat → Value) (hl : ln ≤ cap) (hz : off + cs.length ≤ Z b ∨ cs = []) (hc : ∀ i, i < cs.length → cellAt w b (off + i) = some (vs i))
      (hr : ∀ i (h : i < cs.length), VR fm φ Z w (cs[i]) (vs i)) (ht : TkR φ w tk cs.length ln cap b off) : VR fm φ Z w (.pl cs ln tk) (.slice (some ⟨b, off, none⟩) ln cap)
  | map (id b e : Nat) (h : φ id = some (b, e)) : VR fm φ Z w (.map id) (.map (some b))
  | nilm : VR fm φ Z w .nilm (.map none)
  | func (g f : Nat) (first cap : List AV) (first' cap' : Array Value) (h : fm f = some g) (h1 : first.length = first'.size) (h2 : cap.length = cap'.size)
      (r1 : ∀ i (h : i < first.length) (h' : i < first'.size), VR fm φ Z w (first[i]) (first'[i])) (r2 : ∀ i (h : i < cap.length) (h' : i < cap'.size), VR fm φ Z w (cap[i]) (cap'[i])) :
      VR fm φ Z w (.func g first cap) (.func (.func f) first' cap')
  | nilf : VR fm φ Z w .nilf .nilFunc
  | nili : VR fm φ Z w .nili .nilIface
  | agg (cs : List AV) (vs : Array Value) (h : cs.length = vs.size) (hr : ∀ i (h : i < cs.length) (h' : i < vs.size), VR fm φ Z w (cs[i]) (vs[i])) : VR fm φ Z w (.agg cs) (.agg vs)
  | tup (cs : List AV) (vs : Array Value) (h : cs.length = vs.size) (hr : ∀ i (h : i < cs.length) (h' : i < vs.size), VR fm φ Z w (cs[i]) (vs[i])) : VR fm φ Z w (.tup cs) (.tuple vs)

/-- A map goes on: its entries keep their places, births and keys; new ones come behind them. -/
structure MapGoes (ms : Array MapEntry) (clk : Nat) (ms' : Array MapEntry) (clk' : Nat) : Prop where
  size : ms.size ≤ ms'.size
  keep : ∀ (i : Nat) (m : MapEntry), ms[i]? = some m → ∃ m' : MapEntry, ms'[i]? = some m' ∧ m'.born = m.born ∧ m'.key = m.key
  clk : ms'.size = ms.size → clk' = clk
theorem MapGoes.refl (ms : Array MapEntry) (clk : Nat) : MapGoes ms clk ms clk := ⟨Nat.le_refl _, fun i m h => ⟨m, h, rfl, rfl⟩, fun _ => rfl⟩
theorem MapGoes.trans {ms ms1 ms2 : Array MapEntry} {clk clk1 clk2 : Nat} (a : MapGoes ms clk ms1 clk1) (b : MapGoes ms1 clk1 ms2 clk2) : MapGoes ms clk ms2 clk2 := by
  refine ⟨Nat.le_trans a.size b.size, fun i m h => ?_, fun h => ?_⟩
  · obtain ⟨m1, h1, h2, h3⟩ := a.keep i m h
    obtain ⟨m2, h4, h5, h6⟩ := b.keep i m1 h1
    exact ⟨m2, h4, h5.trans h2, h6.trans h3⟩
  · have := a.size; have := b.size
    exact (b.clk (by omega)).trans (a.clk (by omega))

/-- The world goes on: what is known stays so, what is frozen is as it was. -/
structure Ext (φ φ' : Ph) (Z Z' : Ze) (w w' : World) : Prop where
  ph : ∀ i x, φ i = some x → φ' i = some x
  ze : ∀ b, Z b ≤ Z' b
  rows : ∀ b n, rowSize w b = some n → rowSize w' b = some n
  froz : ∀ b off, off < Z b → cellAt w' b off = cellAt w b off
  size : w.heap.size ≤ w'.heap.size
  os : w'.os = w.os
  tape : w'.tape = w.tape
  output : w'.output = w.output
  maps : ∀ (b : Nat) (ms : Array MapEntry) (clk : Nat), w.heap[b]? = some (Obj.map ms clk) → ∃ (ms' : Array MapEntry) (clk' : Nat), w'.heap[b]? = some (Obj.map ms' clk') ∧ MapGoes ms clk ms' clk'

theorem Ext.refl (φ : Ph) (Z : Ze) (w : World) : Ext φ φ Z Z w w := ⟨fun _ _ h => h, fun _ => Nat.le_refl _, fun _ _ h => h, fun _ _ _ => rfl, Nat.le_refl _, rfl, rfl, rfl, fun b ms clk h => ⟨ms, clk, h, MapGoes.refl _ _⟩⟩
theorem Ext.trans {φ φ1 φ2 : Ph} {Z Z1 Z2 : Ze} {w w1 w2 : World} (a : Ext φ φ1 Z Z1 w w1) (b : Ext φ1 φ2 Z1 Z2 w1 w2) : Ext φ φ2 Z Z2 w w2 :=
  ⟨fun i x h => b.ph i x (a.ph i x h), fun c => Nat.le_trans (a.ze c) (b.ze c), fun c n h => b.rows c n (a.rows c n h),
   fun c o h => (b.froz c o (Nat.lt_of_lt_of_le h (a.ze c))).trans (a.froz c o h), Nat.le_trans a.size b.size, b.os.trans a.os, b.tape.trans a.tape, b.output.trans a.output, fun c ms clk h => by
     obtain ⟨ms1, clk1, h1, g1⟩ := a.maps c ms clk h
     obtain ⟨ms2, clk2, h2, g2⟩ := b.maps c ms1 clk1 h1
     exact ⟨ms2, clk2, h2, g1.trans g2⟩⟩

theorem TkR.ext {φ φ' : Ph} {Z Z' : Ze} {w w' : World} (x : Ext φ φ' Z Z' w w') {tk : Tk} {n ln cap b off : Nat} (h : TkR φ w tk n ln cap b off) : TkR φ' w' tk n ln cap b off := by
  cases tk with
  | live t e => obtain ⟨h1, h2, sz, h3, h4⟩ := h; exact ⟨x.ph _ _ h1, h2, sz, x.rows _ _ h3, h4⟩
  | _ => exact h

theorem VR.ext {fm : Fm} {φ φ' : Ph} {Z Z' : Ze} {w w' : World} (x : Ext φ φ' Z Z' w w') {a : AV} {v : Value} (h : VR fm φ Z w a v) : VR fm φ' Z' w' a v := by
  induction h with
  | bool b => exact .bool b
  | int k n => exact .int k n
  | str s => exact .str s
  | nilp => exact .nilp
  | ptr id off b e h => exact .ptr id off b e (x.ph _ _ h)
  | fp cs b off vs hz hc _ ih =>
    refine .fp cs b off vs (hz.imp (fun h => Nat.le_trans h (x.ze b)) id) (fun i hi => ?_) ih
    rcases hz with hz | rfl
    · exact (x.froz b (off + i) (by omega)).trans (hc i hi)
    · simp at hi
  | sl id off ln esz b e cap sz o h hs hcap hl ho => exact .sl id off ln esz b e cap sz o (x.ph _ _ h) (x.rows _ _ hs) hcap hl ho
  | plnil => exact .plnil
  | pl cs ln cap tk b off vs hl hz hc _ ht ih =>
    refine .pl cs ln cap tk b off vs hl (hz.imp (fun h => Nat.le_trans h (x.ze b)) id) (fun i hi => ?_) ih (ht.ext x)
    rcases hz with hz | rfl
    · exact (x.froz b (off + i) (by omega)).trans (hc i hi)
    · simp at hi
  | map id b e h => exact .map id b e (x.ph _ _ h)
  | nilm => exact .nilm
  | func g f first cap first' cap' h h1 h2 _ _ i1 i2 => exact .func g f first cap first' cap' h h1 h2 i1 i2
  | nilf => exact .nilf
  | nili => exact .nili
  | agg cs vs h _ ih => exact .agg cs vs h ih
  | tup cs vs h _ ih => exact .tup cs vs h ih

/-- Pointwise: a list of values, and an array. -/
def VRs (fm : Fm) (φ : Ph) (Z : Ze) (w : World) (as : List AV) (vs : List Value) : Prop := All2 (VR fm φ Z w) as vs
theorem VRs.ext {fm : Fm} {φ φ' : Ph} {Z Z' : Ze} {w w' : World} (x : Ext φ φ' Z Z' w w') {as : List AV} {vs : List Value} (h : VRs fm φ Z w as vs) : VRs fm φ' Z' w' as vs := by
  induction h with
  | nil => exact .nil
  | cons a _ ih => exact .cons (a.ext x) ih
theorem vrs_of {fm : Fm} {φ : Ph} {Z : Ze} {w : World} : ∀ {as : List AV} {vs : List Value} (_ : as.length = vs.length) (_ : ∀ i (h : i < as.length) (h' : i < vs.length), VR fm φ Z w (as[i]) (vs[i])), VRs fm φ Z w as vs
  | [], [], _, _ => .nil
  | [], _ :: _, h, _ => by simp at h
  | _ :: _, [], h, _ => by simp at h
  | a :: as, v :: vs, h, hr => .cons (hr 0 (by simp) (by simp)) (vrs_of (by simpa using h) fun i h1 h2 => hr (i + 1) (by simpa using h1) (by simpa using h2))
theorem VRs.len {fm : Fm} {φ : Ph} {Z : Ze} {w : World} {as : List AV} {vs : List Value} (h : VRs fm φ Z w as vs) : as.length = vs.length := by
  induction h with
  | nil => rfl
  | cons _ _ ih => simp [ih]
theorem VRs.at_ {fm : Fm} {φ : Ph} {Z : Ze} {w : World} {as : List AV} {vs : List Value} (h : VRs fm φ Z w as vs) : ∀ i (h : i < as.length) (h' : i < vs.length), VR fm φ Z w (as[i]) (vs[i]) := by
  induction h with
  | nil => intro i h; simp at h
  | cons a _ ih =>
    intro i h1 h2
    cases i with
    | zero => exact a
    | succ i => exact ih i (by simpa using h1) (by simpa using h2)
theorem VRs.append {fm : Fm} {φ : Ph} {Z : Ze} {w : World} {as bs : List AV} {us vs : List Value} (h : VRs fm φ Z w as us) (k : VRs fm φ Z w bs vs) : VRs fm φ Z w (as ++ bs) (us ++ vs) := by
  induction h with
  | nil => exact k
  | cons a _ ih => exact .cons a ih
theorem VRs.take {fm : Fm} {φ : Ph} {Z : Ze} {w : World} {as : List AV} {us : List Value} (h : VRs fm φ Z w as us) : ∀ n, VRs fm φ Z w (as.take n) (us.take n) := by
  induction h with
  | nil => intro n; cases n <;> exact .nil
  | cons a _ ih => intro n; cases n with
    | zero => exact .nil
    | succ n => exact .cons a (ih n)
theorem VRs.drop {fm : Fm} {φ : Ph} {Z : Ze} {w : World} {as : List AV} {us : List Value} (h : VRs fm φ Z w as us) : ∀ n, VRs fm φ Z w (as.drop n) (us.drop n) := by
  induction h with
  | nil => intro n; cases n <;> exact .nil
  | cons a h ih => intro n; cases n with
    | zero => exact .cons a h
    | succ n => exact ih n

/-! ### objects -/
structure ER (fm : Fm) (φ : Ph) (Z : Ze) (w : World) (e : AV × AV) (m : MapEntry) : Prop where
  key : VR fm φ Z w e.1 m.key
  val : VR fm φ Z w e.2 m.val

structure MR (fm : Fm) (φ : Ph) (Z : Ze) (w : World) (es : List (AV × AV)) (ms : List MapEntry) (clk : Nat) : Prop where
  rel : All2 (ER fm φ Z w) es ms
  born : ∀ m ∈ ms, m.born < clk
  nodup : (ms.map (·.born)).Nodup

/-- How far a map has been gone through. -/
structure IterR (fm : Fm) (φ : Ph) (Z : Ze) (w : World) (seen : List AV) (cnt since : Nat) (sn : Array Nat) (last : Nat) (ms : Array MapEntry) (clk : Nat) : Prop where
  hcnt : cnt ≤ ms.size
  hborn : ∀ (i : Nat) (m : MapEntry), i < cnt → ms[i]? = some m → m.born < since
  hseen : All2 (fun k b => ∃ (i : Nat) (m : MapEntry), i < cnt ∧ ms[i]? = some m ∧ m.born = b ∧ VR fm φ Z w k m.key ∧ ∃ kt, ktOk kt k = true) seen sn.toList.reverse
  hsince : since ≤ last
  hlast : ms.size = cnt → last = clk
theorem IterR.ext {fm : Fm} {φ φ' : Ph} {Z Z' : Ze} {w w' : World} (x : Ext φ φ' Z Z' w w') {seen : List AV} {cnt since : Nat} {sn : Array Nat} {last : Nat} {ms ms' : Array MapEntry} {clk clk' : Nat} (h : IterR fm φ Z w seen cnt since sn last ms clk) (g : MapGoes ms clk ms' clk') : IterR fm φ' Z' w' seen cnt since sn last ms' clk' := by
  refine ⟨Nat.le_trans h.hcnt g.size, fun i m hi hm => ?_, ?_, h.hsince, fun hs => ?_⟩
  · have hlt : i < ms.size := Nat.lt_of_lt_of_le hi h.hcnt
    obtain ⟨m', h1, h2, _⟩ := g.keep i ms[i] (Array.getElem?_eq_getElem hlt)
    rw [hm] at h1
    simp only [Option.some.injEq] at h1
    rw [h1, h2]
    exact h.hborn i _ hi (Array.getElem?_eq_getElem hlt)
  · have key : ∀ {l : List AV} {r : List Nat}, All2 (fun k b => ∃ (i : Nat) (m : MapEntry), i < cnt ∧ ms[i]? = some m ∧ m.born = b ∧ VR fm φ Z w k m.key ∧ ∃ kt, ktOk kt k = true) l r → All2 (fun k b => ∃ (i : Nat) (m : MapEntry), i < cnt ∧ ms'[i]? = some m ∧ m.born = b ∧ VR fm φ' Z' w' k m.key ∧ ∃ kt, ktOk kt k = true) l r := by
      intro l r hl
      induction hl with
      | nil => exact .nil
      | cons a _ ih =>
        obtain ⟨i, m, h1, h2, h3, h4, h5⟩ := a
        obtain ⟨m', k1, k2, k3⟩ := g.keep i m h2
        exact .cons ⟨i, m', h1, k1, k2.trans h3, by rw [k3]; exact h4.ext x, h5⟩ ih
    exact key h.hseen
  · have := h.hcnt; have := g.size
    rw [g.clk (by omega)]
    exact h.hlast (by omega)

def ObjR (fm : Fm) (φ : Ph) (Z : Ze) (w : World) : AObj → Nat × Nat → Prop
  | .cells c, p => Z p.1 = 0 ∧ ∃ arr el, w.heap[p.1]? = some (.cells arr el (0, 0)) ∧ p.2 + c.length ≤ arr.size ∧ VRs fm φ Z w c ((arr.toList.drop p.2).take c.length)
  | .map es, p => Z p.1 = 0 ∧ ∃ ms clk es0, w.heap[p.1]? = some (.map ms clk) ∧ es0.Perm es ∧ KD es ∧ MR fm φ Z w es0 ms.toList clk
  | .tok, p => Z p.1 = p.2 ∧ ∃ arr el, w.heap[p.1]? = some (.cells arr el (0, 0)) ∧ p.2 ≤ arr.size
  | .iter m seen cnt, p => Z p.1 = 0 ∧ p.2 = 0 ∧ match m with
    | none => ∃ a b c, w.heap[p.1]? = some (.mapIter none a b c)
    | some m => ∃ b0 e0 since sn last ms clk, w.heap[p.1]? = some (.mapIter (some b0) since sn last) ∧ φ m = some (b0, e0) ∧ w.heap[b0]? = some (.map ms clk) ∧ IterR fm φ Z w seen cnt since sn last ms clk

def ph (ψ : Ps) : Ph := fun i => ψ (.inl i)

structure Inv (fm : Fm) (ψ : Ps) (Z : Ze) (lk : Lk) (w : World) : Prop where
  obj : ∀ o x, lk o = some x → ∃ p, ψ o = some p ∧ ObjR fm (ph ψ) Z w x p
  inj : ∀ o o' x x' p p', lk o = some x → lk o' = some x' → ψ o = some p → ψ o' = some p' → p.1 = p'.1 → o = o'
  zs : ∀ b, 0 < Z b → ∃ n, rowSize w b = some n ∧ Z b ≤ n

/-- The block is one of those that are there to be written. -/
def Owned (ψ : Ps) (lk : Lk) (b : Nat) : Prop := ∃ o x p, lk o = some x ∧ ψ o = some p ∧ p.1 = b

/-- What isn't owned stays as it was, and isn't owned afterwards. -/
structure Fr (ψ ψ' : Ps) (lk lk' : Lk) (w w' : World) : Prop where
  same : ∀ b, b < w.heap.size → ¬ Owned ψ lk b → w'.heap[b]? = w.heap[b]?
  own : ∀ b, b < w.heap.size → ¬ Owned ψ lk b → ¬ Owned ψ' lk' b

theorem Fr.refl (ψ : Ps) (lk : Lk) (w : World) : Fr ψ ψ lk lk w w := ⟨fun _ _ _ => rfl, fun _ _ h => h⟩
theorem Fr.trans {ψ ψ1 ψ2 : Ps} {lk lk1 lk2 : Lk} {w w1 w2 : World} (a : Fr ψ ψ1 lk lk1 w w1) (hs : w.heap.size ≤ w1.heap.size) (b : Fr ψ1 ψ2 lk1 lk2 w1 w2) : Fr ψ ψ2 lk lk2 w w2 :=
  ⟨fun c h o => (b.same c (Nat.lt_of_lt_of_le h hs) (a.own c h o)).trans (a.same c h o), fun c h o => b.own c (Nat.lt_of_lt_of_le h hs) (a.own c h o)⟩

/-! ### one block is turned, or laid -/
def setB (w : World) (b : Nat) (o : Obj) : World := { w with heap := w.heap.setIfInBounds b o }
def addB (w : World) (o : Obj) : World := { w with heap := w.heap.push o }

theorem setB_get {w : World} {b : Nat} {o : Obj} (c : Nat) : (setB w b o).heap[c]? = if c = b then (if b < w.heap.size then some o else none) else w.heap[c]? := by
  simp only [setB, Array.getElem?_setIfInBounds]
  by_cases h : b = c
  · subst h; simp
  · have : ¬ c = b := fun e => h e.symm
    simp [h, this]
theorem addB_get {w : World} {o : Obj} (c : Nat) : (addB w o).heap[c]? = if c = w.heap.size then some o else w.heap[c]? := by
  simp only [addB, Array.getElem?_push]
theorem addB_size (w : World) (o : Obj) : (addB w o).heap.size = w.heap.size + 1 := by simp [addB]
theorem setB_size (w : World) (b : Nat) (o : Obj) : (setB w b o).heap.size = w.heap.size := by simp [setB]
theorem lt_of_heap {w : World} {b : Nat} {o : Obj} (h : w.heap[b]? = some o) : b < w.heap.size := (Array.getElem?_eq_some_iff.1 h).1
theorem rowSize_lt {w : World} {b n : Nat} (h : rowSize w b = some n) : b < w.heap.size := by
  unfold rowSize at h
  split at h
  · exact lt_of_heap (by assumption)
  · simp at h
theorem cellAt_eq (w : World) (b o : Nat) : cellAt w b o = match w.heap[b]? with | some (.cells c _ _) => c[o]? | _ => none := by
  simp only [cellAt, World.cell?]
  split <;> simp_all

theorem ext_setB {φ : Ph} {Z : Ze} {w : World} {b : Nat} {arr arr' : Array Value} {el : TypeId} {fr : Nat × Nat} (h : w.heap[b]? = some (.cells arr el fr)) (hs : arr'.size = arr.size)
    (hz : ∀ i, i < Z b → arr'[i]? = arr[i]?) : Ext φ φ Z Z w (setB w b (.cells arr' el fr)) := by
  have hb := lt_of_heap h
  refine ⟨fun _ _ h => h, fun _ => Nat.le_refl _, fun c n hn => ?_, fun c off hc => ?_, by rw [setB_size]; exact Nat.le_refl _, rfl, rfl, rfl, fun c ms clk hm => ?_⟩
  rotate_left
  rotate_left
  · refine ⟨ms, clk, ?_, MapGoes.refl _ _⟩
    rw [setB_get]
    by_cases hcb : c = b
    · subst hcb; rw [h] at hm; simp at hm
    · rw [if_neg hcb]; exact hm
  · unfold rowSize at hn ⊢
    rw [setB_get]
    by_cases hcb : c = b
    · subst hcb; rw [h] at hn; simp [hb]; simpa [hs] using hn
    · simpa [hcb] using hn
  · rw [cellAt_eq, cellAt_eq, setB_get]
    by_cases hcb : c = b
    · subst hcb; rw [h]; simp [hb]; exact hz off hc
    · simp [hcb]
/-- A block that isn't a row is turned into one that isn't. -/
theorem ext_setM {φ : Ph} {Z : Ze} {w : World} {b : Nat} {o o' : Obj} (h : w.heap[b]? = some o) (hr : rowSize w b = none) (hz : Z b = 0) (hm : ∀ ms clk, o = .map ms clk → ∃ ms' clk', o' = .map ms' clk' ∧ MapGoes ms clk ms' clk') : Ext φ φ Z Z w (setB w b o') := by
  refine ⟨fun _ _ h => h, fun _ => Nat.le_refl _, fun c n hn => ?_, fun c off hc => ?_, by rw [setB_size]; exact Nat.le_refl _, rfl, rfl, rfl, fun c ms clk hc => ?_⟩
  rotate_left
  rotate_left
  · rw [setB_get]
    by_cases hcb : c = b
    · subst hcb
      rw [h] at hc
      simp only [Option.some.injEq] at hc
      obtain ⟨ms', clk', h1, h2⟩ := hm ms clk hc
      exact ⟨ms', clk', by rw [if_pos rfl, if_pos (lt_of_heap h), h1], h2⟩
    · rw [if_neg hcb]; exact ⟨ms, clk, hc, MapGoes.refl _ _⟩
  · by_cases hcb : c = b
    · subst hcb; rw [hr] at hn; simp at hn
    · unfold rowSize at hn ⊢; rw [setB_get]; simpa [hcb] using hn
  · by_cases hcb : c = b
    · subst hcb; omega
    · rw [cellAt_eq, cellAt_eq, setB_get]; simp [hcb]
theorem ext_addB {φ : Ph} {Z : Ze} {w : World} {o : Obj} (zs : ∀ b, 0 < Z b → ∃ n, rowSize w b = some n ∧ Z b ≤ n) : Ext φ φ Z Z w (addB w o) := by
  refine ⟨fun _ _ h => h, fun _ => Nat.le_refl _, fun c n hn => ?_, fun c off hc => ?_, by rw [addB_size]; omega, rfl, rfl, rfl, fun c ms clk hc => ⟨ms, clk, by rw [addB_get, if_neg (by have := lt_of_heap hc; omega)]; exact hc, MapGoes.refl _ _⟩⟩
  · have := rowSize_lt hn
    unfold rowSize at hn ⊢; rw [addB_get]; rw [if_neg (by omega)]; exact hn
  · obtain ⟨n, hn, _⟩ := zs c (by omega)
    have := rowSize_lt hn
    rw [cellAt_eq, cellAt_eq, addB_get, if_neg (by omega)]
theorem ext_ph {φ φ' : Ph} {Z : Ze} {w : World} (h : ∀ i x, φ i = some x → φ' i = some x) : Ext φ φ' Z Z w w := ⟨h, fun _ => Nat.le_refl _, fun _ _ h => h, fun _ _ _ => rfl, Nat.le_refl _, rfl, rfl, rfl, fun b ms clk h => ⟨ms, clk, h, MapGoes.refl _ _⟩⟩
theorem ext_ze {φ : Ph} {Z Z' : Ze} {w : World} (h : ∀ b, Z b ≤ Z' b) : Ext φ φ Z Z' w w := ⟨fun _ _ h => h, h, fun _ _ h => h, fun _ _ _ => rfl, Nat.le_refl _, rfl, rfl, rfl, fun b ms clk h => ⟨ms, clk, h, MapGoes.refl _ _⟩⟩
theorem ext_drew {φ : Ph} {Z : Ze} {w : World} : Ext φ φ Z Z w { w with drawn := w.drawn + 1 } := ⟨fun _ _ h => h, fun _ => Nat.le_refl _, fun _ _ h => h, fun _ _ _ => rfl, Nat.le_refl _, rfl, rfl, rfl, fun b ms clk h => ⟨ms, clk, h, MapGoes.refl _ _⟩⟩

theorem MR.ext {fm : Fm} {φ φ' : Ph} {Z Z' : Ze} {w w' : World} (x : Ext φ φ' Z Z' w w') {es : List (AV × AV)} {ms : List MapEntry} {clk : Nat} (h : MR fm φ Z w es ms clk) : MR fm φ' Z' w' es ms clk := by
  refine ⟨?_, h.born, h.nodup⟩
  have := h.rel
  clear h
  induction this with
  | nil => exact .nil
  | cons a _ ih => exact .cons ⟨a.key.ext x, a.val.ext x⟩ ih

/-- An object whose own block is as it was, in a world that went on. -/
theorem ObjR.ext {fm : Fm} {φ φ' : Ph} {Z Z' : Ze} {w w' : World} (x : Ext φ φ' Z Z' w w') {o : AObj} {p : Nat × Nat} (h : ObjR fm φ Z w o p) (hb : w'.heap[p.1]? = w.heap[p.1]?) (hz : Z' p.1 = Z p.1) : ObjR fm φ' Z' w' o p := by
  cases o with
  | cells c => obtain ⟨h1, arr, el, h2, h3, h4⟩ := h; exact ⟨hz.trans h1, arr, el, hb.trans h2, h3, h4.ext x⟩
  | map es => obtain ⟨h1, ms, clk, es0, h2, hp, hd, h3⟩ := h; exact ⟨hz.trans h1, ms, clk, es0, hb.trans h2, hp, hd, h3.ext x⟩
  | tok => obtain ⟨h1, arr, el, h2, h3⟩ := h; exact ⟨hz.trans h1, arr, el, hb.trans h2, h3⟩
  | iter m seen cnt =>
    obtain ⟨h1, h2, h3⟩ := h
    refine ⟨hz.trans h1, h2, ?_⟩
    cases m with
    | none => obtain ⟨a, b, c, h4⟩ := h3; exact ⟨a, b, c, hb.trans h4⟩
    | some m =>
      obtain ⟨b0, e0, since, sn, last, ms, clk, h4, h5, h6, h7⟩ := h3
      obtain ⟨ms', clk', h8, h9⟩ := x.maps b0 ms clk h6
      exact ⟨b0, e0, since, sn, last, ms', clk', hb.trans h4, x.ph _ _ h5, h8, h7.ext x h9⟩

theorem ObjR.lt {fm : Fm} {φ : Ph} {Z : Ze} {w : World} {o : AObj} {p : Nat × Nat} (h : ObjR fm φ Z w o p) : p.1 < w.heap.size := by
  cases o with
  | cells c => obtain ⟨_, arr, el, h2, _⟩ := h; exact lt_of_heap h2
  | map es => obtain ⟨_, ms, clk, _, h2, _⟩ := h; exact lt_of_heap h2
  | tok => obtain ⟨_, arr, el, h2, _⟩ := h; exact lt_of_heap h2
  | iter m seen cnt =>
    obtain ⟨_, _, h3⟩ := h
    cases m with
    | none => obtain ⟨a, b, c, h4⟩ := h3; exact lt_of_heap h4
    | some m => obtain ⟨b0, e0, since, sn, last, ms, clk, h4, _⟩ := h3; exact lt_of_heap h4

def upk (lk : Lk) (o : OId) (x : Option AObj) : Lk := fun o' => if o' = o then x else lk o'
def ups (ψ : Ps) (o : OId) (p : Nat × Nat) : Ps := fun o' => if o' = o then some p else ψ o'
def upz (Z : Ze) (b n : Nat) : Ze := fun c => if c = b then n else Z c

theorem Inv.sub {fm : Fm} {ψ : Ps} {Z : Ze} {lk lk' : Lk} {w : World} (h : Inv fm ψ Z lk w) (hs : ∀ o x, lk' o = some x → lk o = some x) : Inv fm ψ Z lk' w :=
  ⟨fun o x hx => h.obj o x (hs o x hx), fun o o' x x' p p' hx hx' => h.inj o o' x x' p p' (hs o x hx) (hs o' x' hx'), h.zs⟩
theorem Fr.sub {ψ : Ps} {lk lk' : Lk} {w : World} (hs : ∀ o x, lk' o = some x → lk o = some x) : Fr ψ ψ lk lk' w w :=
  ⟨fun _ _ _ => rfl, fun _ _ h ⟨o, x, p, h1, h2, h3⟩ => h ⟨o, x, p, hs o x h1, h2, h3⟩⟩

/-- An object's block is turned: the object with it. -/
theorem inv_set {fm : Fm} {ψ : Ps} {Z : Ze} {lk : Lk} {w w' : World} (h : Inv fm ψ Z lk w) {o : OId} {x x' : AObj} {p : Nat × Nat} (hx : lk o = some x) (hp : ψ o = some p)
    (e : Ext (ph ψ) (ph ψ) Z Z w w') (hsz : w'.heap.size = w.heap.size) (hb : ∀ b, b ≠ p.1 → w'.heap[b]? = w.heap[b]?) (hr : ObjR fm (ph ψ) Z w' x' p) :
    Inv fm ψ Z (upk lk o (some x')) w' ∧ Fr ψ ψ lk (upk lk o (some x')) w w' := by
  refine ⟨⟨fun o1 x1 h1 => ?_, fun o1 o2 x1 x2 p1 p2 h1 h2 q1 q2 hpp => ?_, fun b hb0 => ?_⟩, ⟨fun b _ ho => ?_, fun b _ ho => ?_⟩⟩
  · unfold upk at h1
    split at h1
    · rename_i heq; subst heq; simp at h1; subst h1; exact ⟨p, hp, hr⟩
    · rename_i hne
      obtain ⟨q, hq, hq'⟩ := h.obj o1 x1 h1
      exact ⟨q, hq, hq'.ext e (hb _ fun hc => hne (h.inj o1 o x1 x q p h1 hx hq hp hc)) rfl⟩
  · have h1' : ∃ y, lk o1 = some y := by
      by_cases hq : o1 = o
      · exact ⟨x, hq ▸ hx⟩
      · exact ⟨x1, by simpa [upk, hq] using h1⟩
    have h2' : ∃ y, lk o2 = some y := by
      by_cases hq : o2 = o
      · exact ⟨x, hq ▸ hx⟩
      · exact ⟨x2, by simpa [upk, hq] using h2⟩
    obtain ⟨y1, h1'⟩ := h1'; obtain ⟨y2, h2'⟩ := h2'
    exact h.inj o1 o2 y1 y2 p1 p2 h1' h2' q1 q2 hpp
  · obtain ⟨n, hn, hle⟩ := h.zs b hb0; exact ⟨n, e.rows b n hn, hle⟩
  · exact hb b fun hc => ho ⟨o, x, p, hx, hp, hc.symm⟩
  · rintro ⟨o1, x1, p1, h1, h2, h3⟩
    unfold upk at h1
    split at h1
    · rename_i heq; subst heq; exact ho ⟨o1, x, p1, hx, h2, h3⟩
    · exact ho ⟨o1, x1, p1, h1, h2, h3⟩

/-- A new block, and a new object on it. -/
theorem inv_add {fm : Fm} {ψ : Ps} {Z : Ze} {lk : Lk} {w : World} (h : Inv fm ψ Z lk w) {o : OId} {x : AObj} {ob : Obj} {e0 : Nat} (hf : lk o = none) (hn : ψ o = none)
    (hr : ObjR fm (ph (ups ψ o (w.heap.size, e0))) Z (addB w ob) x (w.heap.size, e0)) :
    Inv fm (ups ψ o (w.heap.size, e0)) Z (upk lk o (some x)) (addB w ob) ∧ Ext (ph ψ) (ph (ups ψ o (w.heap.size, e0))) Z Z w (addB w ob) ∧ Fr ψ (ups ψ o (w.heap.size, e0)) lk (upk lk o (some x)) w (addB w ob) := by
  have e1 : Ext (ph ψ) (ph (ups ψ o (w.heap.size, e0))) Z Z w (addB w ob) := (ext_addB h.zs).trans (ext_ph fun i y hy => by
    unfold ph ups at *; split
    · rename_i heq; rw [heq] at hy; rw [hn] at hy; simp at hy
    · exact hy)
  have lt : ∀ o1 x1 p1, lk o1 = some x1 → ψ o1 = some p1 → p1.1 < w.heap.size := fun o1 x1 p1 h1 h2 => by
    obtain ⟨q, hq, hq'⟩ := h.obj o1 x1 h1
    rw [h2] at hq; simp at hq; subst hq
    cases x1 with
    | cells c => obtain ⟨_, arr, el, h2, _⟩ := hq'; exact lt_of_heap h2
    | map es => obtain ⟨_, arr, el, _, h2, _⟩ := hq'; exact lt_of_heap h2
    | tok => obtain ⟨_, arr, el, h2, _⟩ := hq'; exact lt_of_heap h2
    | iter m seen cnt =>
      obtain ⟨_, _, h3⟩ := hq'
      cases m with
      | none => obtain ⟨a, b, c, h4⟩ := h3; exact lt_of_heap h4
      | some m => obtain ⟨b0, e0, since, sn, last, ms, clk, h4, _⟩ := h3; exact lt_of_heap h4
  refine ⟨⟨fun o1 x1 h1 => ?_, fun o1 o2 x1 x2 p1 p2 h1 h2 q1 q2 hpp => ?_, fun b hb0 => ?_⟩, e1, ⟨fun b hb _ => ?_, fun b hb ho => ?_⟩⟩
  · unfold upk at h1
    split at h1
    · rename_i heq; subst heq; simp at h1; subst h1; exact ⟨_, by simp [ups], hr⟩
    · rename_i hne
      obtain ⟨q, hq, hq'⟩ := h.obj o1 x1 h1
      refine ⟨q, by simp [ups, hne, hq], hq'.ext e1 ?_ rfl⟩
      have := lt o1 x1 q h1 hq
      rw [addB_get, if_neg (by omega)]
  · unfold upk at h1 h2; unfold ups at q1 q2
    split at h1 <;> split at h2
    · simp_all
    · rename_i ha hb
      simp [ha] at q1; simp [hb] at q2
      have := lt o2 x2 p2 h2 q2
      rw [← q1] at hpp; simp at hpp; omega
    · rename_i ha hb
      simp [ha] at q1; simp [hb] at q2
      have := lt o1 x1 p1 h1 q1
      rw [← q2] at hpp; simp at hpp; omega
    · rename_i ha hb
      simp [ha] at q1; simp [hb] at q2
      exact h.inj o1 o2 x1 x2 p1 p2 h1 h2 q1 q2 hpp
  · obtain ⟨n, hn, hle⟩ := h.zs b hb0; exact ⟨n, e1.rows b n hn, hle⟩
  · rw [addB_get, if_neg (by omega)]
  · rintro ⟨o1, x1, p1, h1, h2, h3⟩
    unfold upk at h1; unfold ups at h2
    split at h1
    · rename_i heq; simp [heq] at h2; rw [← h2] at h3; simp at h3; omega
    · rename_i hne; simp [hne] at h2; exact ho ⟨o1, x1, p1, h1, h2, h3⟩

/-- A new block whose first cells are frozen; nobody's. -/
theorem inv_addZ {fm : Fm} {ψ : Ps} {Z : Ze} {lk : Lk} {w : World} (h : Inv fm ψ Z lk w) {arr : Array Value} {el : TypeId} {fr : Nat × Nat} {n : Nat} (hn : n ≤ arr.size) :
    Inv fm ψ (upz Z w.heap.size n) lk (addB w (.cells arr el fr)) ∧ Ext (ph ψ) (ph ψ) Z (upz Z w.heap.size n) w (addB w (.cells arr el fr)) ∧ Fr ψ ψ lk lk w (addB w (.cells arr el fr)) := by
  have z0 : Z w.heap.size = 0 := by
    rcases Nat.eq_zero_or_pos (Z w.heap.size) with h0 | h0
    · exact h0
    · obtain ⟨n, hn, _⟩ := h.zs _ h0; have := rowSize_lt hn; omega
  have e0 : Ext (ph ψ) (ph ψ) Z Z w (addB w (.cells arr el fr)) := ext_addB h.zs
  have e1 : Ext (ph ψ) (ph ψ) Z (upz Z w.heap.size n) w (addB w (.cells arr el fr)) := e0.trans (ext_ze fun b => by unfold upz; split <;> simp_all)
  have lt : ∀ o1 x1 p1, lk o1 = some x1 → ψ o1 = some p1 → p1.1 < w.heap.size := fun o1 x1 p1 h1 h2 => by
    obtain ⟨q, hq, hq'⟩ := h.obj o1 x1 h1
    rw [h2] at hq; simp at hq; subst hq
    cases x1 with
    | cells c => obtain ⟨_, arr, el, h2, _⟩ := hq'; exact lt_of_heap h2
    | map es => obtain ⟨_, arr, el, _, h2, _⟩ := hq'; exact lt_of_heap h2
    | tok => obtain ⟨_, arr, el, h2, _⟩ := hq'; exact lt_of_heap h2
    | iter m seen cnt =>
      obtain ⟨_, _, h3⟩ := hq'
      cases m with
      | none => obtain ⟨a, b, c, h4⟩ := h3; exact lt_of_heap h4
      | some m => obtain ⟨b0, e0, since, sn, last, ms, clk, h4, _⟩ := h3; exact lt_of_heap h4
  refine ⟨⟨fun o1 x1 h1 => ?_, h.inj, fun b hb0 => ?_⟩, e1, ⟨fun b hb _ => ?_, fun _ _ ho => ho⟩⟩
  · obtain ⟨q, hq, hq'⟩ := h.obj o1 x1 h1
    have := lt o1 x1 q h1 hq
    exact ⟨q, hq, hq'.ext e1 (by rw [addB_get, if_neg (by omega)]) (by unfold upz; rw [if_neg (by omega)])⟩
  · unfold upz at hb0 ⊢
    split at hb0
    · rename_i heq; subst heq
      refine ⟨arr.size, ?_, by simpa using hn⟩
      unfold rowSize; rw [addB_get, if_pos rfl]
    · rename_i hne
      obtain ⟨m, hm, hle⟩ := h.zs b hb0
      exact ⟨m, e0.rows b m hm, by simpa [hne] using hle⟩
  · rw [addB_get, if_neg (by omega)]

/-- An object is let go, and its first cells are frozen. -/
theorem inv_freeze {fm : Fm} {ψ : Ps} {Z : Ze} {lk : Lk} {w : World} (h : Inv fm ψ Z lk w) {o : OId} {c : List AV} {p : Nat × Nat} (hx : lk o = some (.cells c)) (hp : ψ o = some p) {n : Nat} (hn : n ≤ p.2 + c.length) :
    Inv fm ψ (upz Z p.1 n) (upk lk o none) w ∧ Ext (ph ψ) (ph ψ) Z (upz Z p.1 n) w w ∧ Fr ψ ψ lk (upk lk o none) w w := by
  obtain ⟨q, hq, hz, arr, el, hb, hsz, hr⟩ := h.obj o _ hx
  rw [hp] at hq; simp at hq; subst hq
  have e1 : Ext (ph ψ) (ph ψ) Z (upz Z p.1 n) w w := ext_ze fun b => by unfold upz; split <;> simp_all
  have sub : ∀ o1 x1, upk lk o none o1 = some x1 → lk o1 = some x1 ∧ o1 ≠ o := fun o1 x1 h1 => by unfold upk at h1; split at h1 <;> simp_all
  refine ⟨⟨fun o1 x1 h1 => ?_, fun o1 o2 x1 x2 p1 p2 h1 h2 => h.inj o1 o2 x1 x2 p1 p2 (sub o1 x1 h1).1 (sub o2 x2 h2).1, fun b hb0 => ?_⟩, e1, Fr.sub fun o1 x1 h1 => (sub o1 x1 h1).1⟩
  · obtain ⟨k1, k2⟩ := sub o1 x1 h1
    obtain ⟨q, hq, hq'⟩ := h.obj o1 x1 k1
    refine ⟨q, hq, hq'.ext e1 rfl ?_⟩
    unfold upz; rw [if_neg fun hc => k2 (h.inj o1 o x1 _ q p k1 hx hq hp hc)]
  · unfold upz at hb0 ⊢
    split at hb0
    · rename_i heq; subst heq
      refine ⟨arr.size, by unfold rowSize; rw [hb], ?_⟩
      rw [if_pos rfl]; omega
    · rename_i hne
      obtain ⟨m, hm, hle⟩ := h.zs b hb0
      exact ⟨m, hm, by rw [if_neg hne]; exact hle⟩

end Go.Am
