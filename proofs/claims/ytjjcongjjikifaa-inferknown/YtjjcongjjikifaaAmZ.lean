/- A call goes alike from a memory in which more lies: the places are further on. -/
import Derived.Test.YtjjcongjjikifaaAmF
set_option linter.unusedVariables false
set_option linter.unusedSimpArgs false
namespace Go.Am

/-! ### values whose places are further on -/
def shK (k : Nat) : Tk → Tk
  | .live t e => .live (t + k) e
  | tk => tk
mutual
def shA (k : Nat) : AV → AV
  | .bool b => .bool b
  | .int kd n => .int kd n
  | .str s => .str s
  | .nilp => .nilp
  | .ptr i o => .ptr (i + k) o
  | .fp cs => .fp (shL k cs)
  | .sl i o l e => .sl (i + k) o l e
  | .pl cs l tk => .pl (shL k cs) l (shK k tk)
  | .map i => .map (i + k)
  | .nilm => .nilm
  | .func g a b => .func g (shL k a) (shL k b)
  | .nilf => .nilf
  | .nili => .nili
  | .agg cs => .agg (shL k cs)
  | .tup cs => .tup (shL k cs)
def shL (k : Nat) : List AV → List AV
  | [] => []
  | a :: r => shA k a :: shL k r
end
theorem shL_map (k : Nat) : ∀ l, shL k l = l.map (shA k)
  | [] => rfl
  | a :: r => by simp only [shL, List.map_cons, shL_map k r]
def shT (k v : Nat) : TV → TV
  | .v a => .v (shA k a)
  | .bx j g o => .bx j g o
  | .st i key ver ex => .st (i + k) (shA k key) (ver + v) ex
def shE (k : Nat) (e : AV × AV) : AV × AV := (shA k e.1, shA k e.2)
def shO (k : Nat) : AObj → AObj
  | .cells c => .cells (c.map (shA k))
  | .map es => .map (es.map (shE k))
  | .tok => .tok
  | .iter m seen cnt => .iter (m.map (· + k)) (seen.map (shA k)) cnt
def shG (k : Nat) (l : List (Nat × List AV)) : List (Nat × List AV) := l.map fun p => (p.1, p.2.map (shA k))
def shB (k : Nat) : Boxes → Boxes
  | .lf => .lf
  | .nd v l r => .nd (shG k v) (shB k l) (shB k r)

/-- The memory H1, further on, within H2. -/
structure HR (k v : Nat) (H1 H2 : Heap) : Prop where
  get : ∀ i, H2.get (i + k) = (H1.get i).map (shO k)
  next : H2.next = H1.next + k
  ver : H2.ver = H1.ver + v

/-! ### no places in it -/
mutual
def clA : AV → Bool
  | .bool _ | .int _ _ | .str _ | .nilp | .nilm | .nilf | .nili => true
  | .ptr _ _ | .sl _ _ _ _ | .map _ => false
  | .fp cs => clL cs
  | .pl cs _ tk => clL cs && (match tk with | .live _ _ => false | _ => true)
  | .func _ a b => clL a && clL b
  | .agg cs => clL cs
  | .tup cs => clL cs
def clL : List AV → Bool
  | [] => true
  | a :: r => clA a && clL r
end
mutual
theorem clA_sh (k : Nat) : ∀ {a : AV}, clA a = true → shA k a = a
  | .bool _, _ => rfl
  | .int _ _, _ => rfl
  | .str _, _ => rfl
  | .nilp, _ => rfl
  | .nilm, _ => rfl
  | .nilf, _ => rfl
  | .nili, _ => rfl
  | .ptr _ _, h => by simp [clA] at h
  | .sl _ _ _ _, h => by simp [clA] at h
  | .map _, h => by simp [clA] at h
  | .fp cs, h => by simp only [clA] at h; simp only [shA, clL_sh k h]
  | .pl cs l tk, h => by
    simp only [clA, Bool.and_eq_true] at h
    simp only [shA, clL_sh k h.1]
    cases tk <;> simp at h <;> rfl
  | .func g a b, h => by simp only [clA, Bool.and_eq_true] at h; simp only [shA, clL_sh k h.1, clL_sh k h.2]
  | .agg cs, h => by simp only [clA] at h; simp only [shA, clL_sh k h]
  | .tup cs, h => by simp only [clA] at h; simp only [shA, clL_sh k h]
theorem clL_sh (k : Nat) : ∀ {l : List AV}, clL l = true → shL k l = l
  | [], _ => rfl
  | a :: r, h => by simp only [clL, Bool.and_eq_true] at h; simp only [shL, clA_sh k h.1, clL_sh k h.2]
end
theorem clL_map (k : Nat) {l : List AV} (h : clL l = true) : l.map (shA k) = l := by rw [← shL_map]; exact clL_sh k h

def clX : AOpd → Bool
  | .t _ => true
  | .c a => clA a
def clXs (l : List AOpd) : Bool := l.all clX
def clXo : Option AOpd → Bool
  | some x => clX x
  | none => true
def clPs (l : List (Nat × Nat × AOpd)) : Bool := l.all fun p => clX p.2.2
def clOp : AOp → Bool
  | .mv x => clX x
  | .pick c a b => clX c && clX a && clX b
  | .alloc _ z => clL z
  | .box _ x => clX x
  | .build z ps => clL z && clPs ps
  | .bslice _ _ z ps => clL z && clPs ps
  | .load _ _ x => clX x
  | .loadS _ _ x => clX x
  | .store _ a x => clX a && clX x
  | .nilck x => clX x
  | .bin _ _ x y => clX x && clX y
  | .not x => clX x
  | .neg x => clX x
  | .bnot x => clX x
  | .cint _ x => clX x
  | .cstr x => clX x
  | .sbytes x => clX x
  | .bstr x => clX x
  | .faddr _ x => clX x
  | .field _ _ _ x => clX x
  | .iaddr _ _ x i => clX x && clX i
  | .index x i => clX x && clX i
  | .sliceS x lo hi => clX x && clXo lo && clXo hi
  | .sliceL _ x lo hi mx => clX x && clXo lo && clXo hi && clXo mx
  | .sliceA _ _ x lo hi => clX x && clXo lo && clXo hi
  | .lookup _ z _ m k => clA z && clX m && clX k
  | .mupd _ m k x => clX m && clX k && clX x
  | .ins _ m k x => clX m && clX k && clX x
  | .ment _ z m k => clA z && clX m && clX k
  | .estore m s x => clX m && clX s && clX x
  | .mkmap => true
  | .mkslice _ _ z l c => clL z && clX l && clX c
  | .mkfun _ a b => clXs a && clXs b
  | .extract _ x => clX x
  | .app _ _ _ s x => clX s && clX x
  | .appS _ _ _ s x => clX s && clX x
  | .clr _ z x => clL z && clX x
  | .len _ x => clX x
  | .max xs => clXs xs
  | .min xs => clXs xs
  | .call f xs => clX f && clXs xs
def clCode : ACode → Bool
  | .skip => true
  | .ops l _ => l.all fun o => clOp o.op
  | .frz _ => true
  | .seq a b => clCode a && clCode b
  | .cond c a b => clX c && clCode a && clCode b
  | .block _ b => clCode b
  | .loop b => clCode b
  | .exit _ => true
  | .ret => true

/-! ### how it goes with what is made of values -/
section
variable {k v : Nat}
theorem shA_cells (a : AV) : (shA k a).cells = a.cells.map (shA k) := by
  cases a <;> simp [shA, AV.cells, shL_map]
theorem shA_one (a : AV) : (shA k a).one = a.one := by cases a <;> simp [shA, AV.one]
theorem shA_scalar (a : AV) : (shA k a).scalar = a.scalar := by cases a <;> simp [shA, AV.scalar]
theorem all_one (l : List AV) : (l.map (shA k)).all AV.one = l.all AV.one := by
  rw [List.all_map]; congr 1; funext a; exact shA_one a
theorem all_scalar (l : List AV) : (l.map (shA k)).all AV.scalar = l.all AV.scalar := by
  rw [List.all_map]; congr 1; funext a; exact shA_scalar a
theorem eq1_sh (a b : AV) : eq1 (shA k a) (shA k b) = eq1 a b := by
  cases a <;> cases b <;> simp [shA, eq1]
theorem eqs_sh : ∀ (a b : List AV), eqs (a.map (shA k)) (b.map (shA k)) = eqs a b
  | [], [] => rfl
  | [], _ :: _ => rfl
  | _ :: _, [] => rfl
  | a :: r, b :: s => by simp only [List.map_cons, eqs, eq1_sh, eqs_sh r s]
theorem keyEq_sh (a b : AV) : keyEq (shA k a) (shA k b) = keyEq a b := by
  cases a <;> cases b <;> simp [shA, keyEq, eq1, shL_map, eqs_sh]
theorem kkOk_sh (q : KK) (a : AV) : kkOk q (shA k a) = kkOk q a := by
  cases q <;> cases a <;> simp [shA, kkOk]
theorem flatOk_sh : ∀ (ks : List KK) (a : List AV), flatOk ks (a.map (shA k)) = flatOk ks a
  | [], [] => rfl
  | [], _ :: _ => rfl
  | _ :: _, [] => rfl
  | q :: r, a :: s => by simp only [List.map_cons, flatOk, kkOk_sh, flatOk_sh r s]
theorem ktOk_sh (kt : KT) (a : AV) : ktOk kt (shA k a) = ktOk kt a := by
  cases kt with
  | one q => exact kkOk_sh q a
  | flat ks => cases a <;> simp [shA, ktOk, shL_map, flatOk_sh]
theorem mfind_sh (key : AV) : ∀ (es : List (AV × AV)), mfind (shA k key) (es.map (shE k)) = (mfind key es).map (Option.map (shA k))
  | [] => rfl
  | (a, b) :: r => by
    simp only [List.map_cons, shE, mfind, keyEq_sh]
    split
    · rfl
    · exact mfind_sh key r
    · rfl
theorem mput_sh (key x : AV) : ∀ (es : List (AV × AV)), mput (shA k key) (shA k x) (es.map (shE k)) = (mput key x es).map (shE k)
  | [] => rfl
  | (a, b) :: r => by
    simp only [List.map_cons, shE, mput, keyEq_sh]
    split
    · rfl
    · simp only [List.map_cons, shE]; rw [← mput_sh key x r]
theorem enc1_sh (a : AV) : enc1 (shA k a) = enc1 a := by cases a <;> simp [shA, enc1]
theorem enc_sh (a : AV) : enc (shA k a) = enc a := by
  cases a with
  | agg cs => simp only [shA, enc, shL_map, List.flatMap_map, enc1_sh]
  | _ => simp [shA, enc, enc1]
theorem mins_sh (key x : AV) : ∀ (es : List (AV × AV)), mins (shA k key) (shA k x) (es.map (shE k)) = (mins key x es).map (shE k)
  | [] => rfl
  | (a, b) :: r => by
    simp only [List.map_cons, shE, mins, enc_sh]
    split
    · rfl
    · simp only [List.map_cons, shE]; rw [← mins_sh key x r]
theorem splice_sh (z : List AV) (off : Nat) (cs : List AV) : splice (z.map (shA k)) off (cs.map (shA k)) = (splice z off cs).map (shA k) := by
  simp [splice, List.map_append, List.map_take, List.map_drop]
theorem repeatC_sh (z : List AV) : ∀ n, repeatC (z.map (shA k)) n = (repeatC z n).map (shA k)
  | 0 => rfl
  | n + 1 => by simp only [repeatC, repeatC_sh z n, List.map_append]
theorem asV_sh (agg : Bool) (n : Nat) (l : List AV) : asV agg n (l.map (shA k)) = (asV agg n l).map (shA k) := by
  cases agg with
  | true =>
    simp only [asV, if_true, takeN, List.length_map]
    split
    · simp [shA, shL_map, List.map_take]
    · rfl
  | false => simp [asV]
theorem unBytes_sh : ∀ (l : List AV), unBytes (l.map (shA k)) = unBytes l
  | [] => rfl
  | a :: r => by
    have ih := unBytes_sh r
    cases a with
    | int q n => cases q <;> simp only [List.map_cons, shA, unBytes, ih]
    | _ => simp only [List.map_cons, shA, unBytes]

/-! slots -/
theorem lget_sh (T : List TV) (j : Nat) : lget (T.map (shT k v)) j = shT k v (lget T j) := by
  induction T generalizing j with
  | nil => cases j <;> rfl
  | cons x r ih => cases j with
    | zero => rfl
    | succ j => exact ih j
theorem lset_sh (T : List TV) (j : Nat) (x : TV) : lset (T.map (shT k v)) j (shT k v x) = (lset T j x).map (shT k v) := by
  induction T generalizing j with
  | nil =>
    induction j with
    | zero => rfl
    | succ j ih =>
      simp only [List.map_nil, lset, List.map_cons] at ih ⊢
      rw [ih]; rfl
  | cons y r ih => cases j with
    | zero => rfl
    | succ j => simp only [List.map_cons, lset, ih]
theorem putT_sh (T : List TV) (d : Option Nat) (x : TV) : putT (T.map (shT k v)) d (shT k v x) = (putT T d x).map (shT k v) := by
  cases d with
  | none => rfl
  | some d => exact lset_sh T d x
theorem ev_sh (T : List TV) {x : AOpd} (h : clX x = true) : ev (T.map (shT k v)) x = shT k v (ev T x) := by
  cases x with
  | t j => exact lget_sh T j
  | c a => simp only [ev, shT, clA_sh k h]
theorem eva_sh (T : List TV) {x : AOpd} (h : clX x = true) : eva (T.map (shT k v)) x = (eva T x).map (shA k) := by
  unfold eva
  rw [ev_sh T h]
  cases ev T x <;> rfl
theorem evo_sh (T : List TV) {x : Option AOpd} (h : clXo x = true) : evo (T.map (shT k v)) x = (evo T x).map (shT k v) := by
  cases x with
  | none => rfl
  | some x => simp only [evo, Option.map_some]; rw [ev_sh T h]
theorem evas_sh (T : List TV) : ∀ {l : List AOpd} (_ : clXs l = true), evas (T.map (shT k v)) l = (evas T l).map (List.map (shA k))
  | [], _ => rfl
  | x :: r, h => by
    simp only [clXs, List.all_cons, Bool.and_eq_true] at h
    simp only [evas, eva_sh T h.1, evas_sh T (show clXs r = true from h.2)]
    cases eva T x <;> cases evas T r <;> rfl
theorem fillA_sh (T : List TV) : ∀ {ps : List (Nat × Nat × AOpd)} (_ : clPs ps = true) (z : List AV), fillA (T.map (shT k v)) (z.map (shA k)) ps = (fillA T z ps).map (List.map (shA k))
  | [], _, z => rfl
  | (off, n, x) :: r, h, z => by
    simp only [clPs, List.all_cons, Bool.and_eq_true] at h
    simp only [fillA, eva_sh T h.1]
    cases eva T x with
    | none => rfl
    | some a =>
      simp only [Option.map_some, shA_cells, List.length_map, splice_sh]
      split
      · exact fillA_sh T (show clPs r = true from h.2) _
      · rfl
theorem toIdx_sh (t : TV) : toIdx (shT k v t) = toIdx t := by
  cases t with
  | v a => cases a <;> rfl
  | _ => rfl
theorem bound_sh (x : Option TV) (d n : Nat) : bound (x.map (shT k v)) d n = bound x d n := by
  cases x with
  | none => rfl
  | some t => simp only [Option.map_some, bound, toIdx_sh]

/-! the frame's variables -/
theorem bgen_sh : ∀ (l : List (Nat × List AV)) (j : Nat), bgen (shG k l) j = (bgen l j).map (List.map (shA k))
  | [], j => rfl
  | (g, c) :: r, j => by
    simp only [shG, List.map_cons, bgen]
    split
    · rfl
    · exact bgen_sh r j
theorem bput_sh : ∀ (l : List (Nat × List AV)) (j : Nat) (x : List AV), bput (shG k l) j (x.map (shA k)) = shG k (bput l j x)
  | [], j, x => rfl
  | (g, c) :: r, j, x => by
    simp only [shG, List.map_cons, bput]
    split
    · rfl
    · simp only [List.map_cons]; have := bput_sh r j x; simp only [shG] at this; rw [this]
theorem bmax_sh : ∀ (l : List (Nat × List AV)), bmax (shG k l) = bmax l
  | [] => rfl
  | (g, c) :: r => by
    have := bmax_sh r
    simp only [shG, List.map_cons, bmax] at this ⊢
    rw [this]
theorem bget_sh : ∀ (L : Boxes) (j : Nat), bget (shB k L) j = shG k (bget L j)
  | .lf, j => by cases j <;> rfl
  | .nd v l r, 0 => rfl
  | .nd v l r, j + 1 => by
    simp only [shB, bget]
    cases Nat.beq (j % 2) 0 with
    | true => exact bget_sh l _
    | false => exact bget_sh r _
theorem Boxes.v_sh (t : Boxes) : (shB k t).v = shG k t.v := by cases t <;> rfl
theorem Boxes.l_sh (t : Boxes) : (shB k t).l = shB k t.l := by cases t <;> rfl
theorem Boxes.r_sh (t : Boxes) : (shB k t).r = shB k t.r := by cases t <;> rfl
theorem bsetF_sh (x : List (Nat × List AV)) : ∀ (f : Nat) (t : Boxes) (j : Nat), bsetF (shG k x) f (shB k t) j = shB k (bsetF x f t j)
  | 0, t, j => rfl
  | f + 1, t, 0 => by simp only [bsetF, shB, Boxes.l_sh, Boxes.r_sh]
  | f + 1, t, j + 1 => by
    simp only [bsetF]
    cases Nat.beq (j % 2) 0 with
    | true => simp only [shB, Boxes.v_sh, Boxes.l_sh, Boxes.r_sh, bsetF_sh x f]
    | false => simp only [shB, Boxes.v_sh, Boxes.l_sh, Boxes.r_sh, bsetF_sh x f]
theorem bset_sh (t : Boxes) (j : Nat) (x : List (Nat × List AV)) : bset (shB k t) j (shG k x) = shB k (bset t j x) := bsetF_sh x _ t j
theorem hideB_sh : ∀ (ks : List Nat) (L : Boxes), hideB (shB k L) ks = shB k (hideB L ks)
  | [], L => rfl
  | j :: ks, L => by
    simp only [hideB]
    have : bset (shB k L) j [] = shB k (bset L j []) := bset_sh L j []
    rw [this, hideB_sh ks]

/-! the memory -/
theorem HR.add {H1 H2 : Heap} (h : HR k v H1 H2) (o : AObj) : HR k v (H1.add o) (H2.add (shO k o)) := by
  refine ⟨fun i => ?_, by simp only [Heap.add, h.next]; omega, by simp only [Heap.add, h.ver]; omega⟩
  simp only [Heap.add, Heap.get, oget, h.next]
  have hg := h.get i
  simp only [Heap.get] at hg
  by_cases hi : i = H1.next
  · subst hi; simp
  · have e1 : Nat.beq H1.next i = false := by
      cases hb : Nat.beq H1.next i with
      | false => rfl
      | true => exact absurd (Nat.eq_of_beq_eq_true hb).symm hi
    have e2 : Nat.beq (H1.next + k) (i + k) = false := by
      cases hb : Nat.beq (H1.next + k) (i + k) with
      | false => rfl
      | true => have := Nat.eq_of_beq_eq_true hb; omega
    simp only [e1, e2, Bool.false_eq_true, if_false, hg]
theorem HR.put {H1 H2 : Heap} (h : HR k v H1 H2) (id : Nat) (o : AObj) : HR k v (H1.put id o) (H2.put (id + k) (shO k o)) := by
  refine ⟨fun i => ?_, h.next, by simp only [Heap.put, h.ver]; omega⟩
  have hg := h.get i
  simp only [Heap.get] at hg
  simp only [Heap.put, Heap.get, oget_oset]
  by_cases hi : i = id
  · subst hi; simp
  · rw [if_neg (by omega), if_neg hi]; exact hg
theorem HR.del {H1 H2 : Heap} (h : HR k v H1 H2) (id : Nat) : HR k v (H1.del id) (H2.del (id + k)) := by
  refine ⟨fun i => ?_, h.next, by simp only [Heap.del, h.ver]; omega⟩
  have hg := h.get i
  simp only [Heap.get] at hg
  simp only [Heap.del, Heap.get, oget_odel]
  by_cases hi : i = id
  · subst hi; simp
  · rw [if_neg (by omega), if_neg hi]; exact hg
theorem HR.bump {H1 H2 : Heap} (h : HR k v H1 H2) : HR k v { H1 with ver := H1.ver + 1 } { H2 with ver := H2.ver + 1 } :=
  ⟨h.get, h.next, by have := h.ver; simp only [this]; omega⟩

theorem cellsAt_sh {L : Boxes} {H1 H2 : Heap} (h : ∀ i, H2.get (i + k) = (H1.get i).map (shO k)) (t : TV) : cellsAt (shB k L) H2 (shT k v t) = (cellsAt L H1 t).map (List.map (shA k)) := by
  cases t with
  | bx j g off =>
    simp only [shT, cellsAt, bget_sh, bgen_sh]
    cases bgen (bget L j) g with
    | none => rfl
    | some c => simp only [Option.map_some, Option.bind_some, List.length_map]; split <;> simp [List.map_drop]
  | v a =>
    cases a <;> simp only [shT, shA, cellsAt, Option.map_none]
    · rename_i i off
      rw [h i]
      cases H1.get i with
      | none => rfl
      | some o => cases o <;> simp only [Option.map_some, shO, List.length_map, Option.map_none]; split <;> simp [List.map_drop]
    · simp [shL_map]
  | st => rfl
theorem sliceCells_sh {H1 H2 : Heap} (h : ∀ i, H2.get (i + k) = (H1.get i).map (shO k)) (esz : Nat) (a : AV) : sliceCells H2 esz (shA k a) = (sliceCells H1 esz a).map fun q => (q.1.map (shA k), q.2) := by
  cases a <;> simp only [shA, sliceCells, Option.map_none]
  · split
    · simp [shA, Function.comp_def]
    · rfl
  · rename_i i off l e
    rw [h i]
    cases H1.get i with
    | none => rfl
    | some o => cases o <;> simp only [Option.map_some, shO, List.length_map, Option.map_none]; split <;> simp [List.map_drop, List.map_take]
  · rename_i cs l tk
    simp only [shL_map, List.length_map]
    split <;> rfl
theorem appFlat_sh {H1 H2 : Heap} (h : ∀ i, H2.get (i + k) = (H1.get i).map (shO k)) (esz : Nat) (s x : AV) : appFlat esz H2 (shA k s) (shA k x) = appFlat esz H1 s x := by
  unfold appFlat
  rw [sliceCells_sh h]
  congr 1
  · cases s <;> simp only [shA, shL_map, all_scalar]
    rename_i i off l e
    rw [h i]
    cases H1.get i with
    | none => rfl
    | some o => cases o <;> simp only [Option.map_some, shO, all_scalar]
  · cases sliceCells H1 esz x with
    | none => rfl
    | some q => simp only [Option.map_some, all_scalar]

/-- One result, and the memory with it. -/
def HRv (k v : Nat) (p q : AV × Heap) : Prop := q.1 = shA k p.1 ∧ HR k v p.2 q.2
theorem appNew_sh {H1 H2 : Heap} (h : HR k v H1 H2) (hp : Bool) (esz need : Nat) (cs : List AV) : ∃ q1 q2, appNew hp esz need cs H1 = some q1 ∧ appNew hp esz need (cs.map (shA k)) H2 = some q2 ∧ HRv k v q1 q2 := by
  unfold appNew
  cases hp with
  | true => exact ⟨_, _, rfl, rfl, by simp [shA, h.next], h.add _⟩
  | false => exact ⟨_, _, rfl, rfl, by simp [shA, h.next, shL_map, shK], h.add .tok⟩
theorem append_sh {H1 H2 : Heap} (h : HR k v H1 H2) {hp : Bool} {esz bytes : Nat} {s x : AV} {p : AV × Heap} (ha : append hp esz bytes H1 s x = some p) : ∃ q, append hp esz bytes H2 (shA k s) (shA k x) = some q ∧ HRv k v p q := by
  unfold append at ha ⊢
  rw [sliceCells_sh h.get]
  cases hsc : sliceCells H1 esz x with
  | none => rw [hsc] at ha; simp at ha
  | some q =>
    obtain ⟨xs, m⟩ := q
    rw [hsc] at ha
    simp only [Option.map_some]
    dsimp only at ha
    have fin : ∀ {H1' H2' : Heap} {need : Nat} {cs : List AV}, HR k v H1' H2' → appNew hp esz need cs H1' = some p → ∃ q, appNew hp esz need (cs.map (shA k)) H2' = some q ∧ HRv k v p q := by
      intro H1' H2' need cs hr hn
      obtain ⟨q1, q2, e1, e2, e3⟩ := appNew_sh hr hp esz need cs
      rw [hn] at e1
      simp only [Option.some.injEq] at e1
      subst e1
      exact ⟨q2, e2, e3⟩
    cases s <;> simp only [shA] <;> try (simp at ha; done)
    · rename_i i off l e
      rw [h.get i]
      dsimp only at ha
      cases hg : H1.get i with
      | none => rw [hg] at ha; simp at ha
      | some o =>
        rw [hg] at ha
        cases o <;> simp only [Option.map_some, shO] <;> try (simp at ha; done)
        rename_i c
        simp only [List.length_map, all_one]
        dsimp only at ha
        split at ha
        · rename_i hb
          rw [if_pos hb]
          have := fin (h.del i) ha
          simpa [List.map_append, List.map_take, List.map_drop] using this
        · simp at ha
    · rename_i cs l tk
      simp only [shL_map, List.length_map]
      dsimp only at ha
      split at ha
      · rename_i hb
        rw [if_pos hb]
        split at ha
        · rename_i hm
          rw [if_pos hm]
          simp only [Option.some.injEq] at ha
          subst ha
          exact ⟨_, rfl, by simp [shA, shL_map], h⟩
        · rename_i hm
          rw [if_neg hm, ← List.map_append]
          cases tk with
          | nil => exact fin h ha
          | exact => exact fin h ha
          | no => simp at ha
          | live t e =>
            simp only [shK]
            rw [h.get t]
            dsimp only at ha
            cases hg : H1.get t with
            | none => rw [hg] at ha; simp at ha
            | some o =>
              rw [hg] at ha
              cases o <;> simp only [Option.map_some, shO] <;> try (simp at ha; done)
              rw [all_one]
              dsimp only at ha
              split at ha
              · rename_i hb2; rw [if_pos hb2]; exact fin (h.del t) ha
              · simp at ha
      · simp at ha

theorem freeze_sh {H1 H2 : Heap} (h : HR k v H1 H2) (a : AV) : HRv k v (freeze H1 a) (freeze H2 (shA k a)) := by
  cases a <;> simp only [shA, freeze] <;> try exact ⟨by simp [shA], h⟩
  rename_i i off l e
  rw [h.get i]
  cases H1.get i with
  | none => exact ⟨rfl, h⟩
  | some o =>
    cases o <;> simp only [Option.map_some, shO] <;> try exact ⟨rfl, h⟩
    simp only [List.length_map]
    split
    · exact ⟨by simp [shA, shL_map, shK, List.map_take, List.map_drop], h.del i⟩
    · exact ⟨rfl, h⟩
theorem freezes_sh {H1 H2 : Heap} : ∀ (l : List AV) (_ : HR k v H1 H2), (freezes H2 (l.map (shA k))).1 = (freezes H1 l).1.map (shA k) ∧ HR k v (freezes H1 l).2 (freezes H2 (l.map (shA k))).2 := by
  intro l
  induction l generalizing H1 H2 with
  | nil => intro h; exact ⟨rfl, h⟩
  | cons a r ih =>
    intro h
    obtain ⟨h1, h2⟩ := freeze_sh h a
    obtain ⟨h3, h4⟩ := ih h2
    simp only [freezes, List.map_cons, h1, h3]
    exact ⟨trivial, h4⟩
theorem freezeAll0_sh {H1 H2 : Heap} (h : HR k v H1 H2) (a : AV) : HRv k v (freezeAll0 H1 a) (freezeAll0 H2 (shA k a)) := by
  cases a with
  | agg cs =>
    obtain ⟨h1, h2⟩ := freezes_sh cs h
    simp only [shA, shL_map, freezeAll0]
    exact ⟨by simp only [h1, shA, shL_map], h2⟩
  | tup cs =>
    obtain ⟨h1, h2⟩ := freezes_sh cs h
    simp only [shA, shL_map, freezeAll0]
    exact ⟨by simp only [h1, shA, shL_map], h2⟩
  | sl i o l e => exact freeze_sh h _
  | _ => exact ⟨by simp [freezeAll0, shA, freeze], h⟩
mutual
theorem forgetA_sh (k : Nat) : ∀ (a : AV), forgetA (shA k a) = shA k (forgetA a)
  | .bool _ => rfl
  | .int _ _ => rfl
  | .str _ => rfl
  | .nilp => rfl
  | .nilm => rfl
  | .nilf => rfl
  | .nili => rfl
  | .ptr _ _ => rfl
  | .sl _ _ _ _ => rfl
  | .map _ => rfl
  | .fp cs => by simp only [shA, forgetA, forgetL_sh k cs]
  | .pl cs l tk => by
    simp only [shA, forgetA, forgetL_sh k cs]
    cases tk <;> rfl
  | .func g a b => by simp only [shA, forgetA, forgetL_sh k a, forgetL_sh k b]
  | .agg cs => by simp only [shA, forgetA, forgetL_sh k cs]
  | .tup cs => by simp only [shA, forgetA, forgetL_sh k cs]
theorem forgetL_sh (k : Nat) : ∀ (l : List AV), forgetL (shL k l) = shL k (forgetL l)
  | [] => rfl
  | a :: r => by simp only [shL, forgetL, forgetA_sh k a, forgetL_sh k r]
end
theorem freezeAll_sh {H1 H2 : Heap} (h : HR k v H1 H2) (a : AV) : HRv k v (freezeAll H1 a) (freezeAll H2 (shA k a)) := by
  obtain ⟨h1, h2⟩ := freezeAll0_sh h a
  exact ⟨by simp only [freezeAll, h1, forgetA_sh], h2⟩
end
end Go.Am
