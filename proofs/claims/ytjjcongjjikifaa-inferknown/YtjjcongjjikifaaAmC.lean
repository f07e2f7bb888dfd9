/- When an operation of the abstract machine stands for one of the model's: the checks; operands; what changes nothing. -/
import Derived.Test.YtjjcongjjikifaaAmB
import Derived.Laws.Entries
import Derived.Laws.CopyRow
set_option linter.unusedVariables false
set_option linter.unusedSimpArgs false
namespace Go.Am

structure Cx where
  P : Program
  fm : Fm
  gl : List (Nat × List Value)

def okVal1 : Value → AV → Bool
  | .bool a, .bool b => a == b
  | .int k n, .int k' n' => decide (k = k') && decide (n = n')
  | .string s, .str l => decide (s.data.toList = l)
  | .pointer none, .nilp => true
  | .slice none 0 0, .pl [] 0 .nil => true
  | .map none, .nilm => true
  | .nilFunc, .nilf => true
  | .nilIface, .nili => true
  | _, _ => false
def okVals : List Value → List AV → Bool
  | [], [] => true
  | v :: r, a :: s => okVal1 v a && okVals r s
  | _, _ => false
def glOk : List (Nat × List Value) → Nat → List AV → Bool
  | [], _, _ => false
  | (g, vs) :: r, i, cs => if Nat.beq g i then okVals vs cs else glOk r i cs
def okOpd (cx : Cx) : Operand → AOpd → Bool
  | .tmp k, .t k' => Nat.beq k k'
  | .const v, .c a => okVal1 v a
  | .func f, .c (.func g [] []) => decide (cx.fm f = some g)
  | .global g, .c (.fp cs) => glOk cx.gl g cs
  | _, _ => false
def okOpds (cx : Cx) : List Operand → List AOpd → Bool
  | [], [] => true
  | x :: r, y :: s => okOpd cx x y && okOpds cx r s
  | _, _ => false

def GlOK (gl : List (Nat × List Value)) (Z : Ze) (w : World) : Prop := ∀ q ∈ gl, q.2.length ≤ Z q.1 ∧ ∀ i v, q.2[i]? = some v → cellAt w q.1 i = some v
theorem GlOK.ext {gl : List (Nat × List Value)} {φ φ' : Ph} {Z Z' : Ze} {w w' : World} (x : Ext φ φ' Z Z' w w') (h : GlOK gl Z w) : GlOK gl Z' w' := fun q hq => by
  obtain ⟨h1, h2⟩ := h q hq
  refine ⟨Nat.le_trans h1 (x.ze _), fun i v hv => ?_⟩
  have : i < q.2.length := by
    rcases Nat.lt_or_ge i q.2.length with h | h
    · exact h
    · rw [List.getElem?_eq_none h] at hv; simp at hv
  exact (x.froz _ _ (by omega)).trans (h2 i v hv)

def look (L : Boxes) (H : Heap) : Lk
  | .inl i => H.get i
  | .inr (k, g) => (bgen (bget L k) g).map .cells

structure MemR (cx : Cx) (ψ : Ps) (Z : Ze) (L : Boxes) (H : Heap) (w : World) : Prop where
  inv : Inv cx.fm ψ Z (look L H) w
  freshH : ∀ i, H.next ≤ i → ψ (.inl i) = none
  freshL : ∀ k g, bmax (bget L k) ≤ g → ψ (.inr (k, g)) = none
  gl : GlOK cx.gl Z w

structure Goes (cx : Cx) (ψ : Ps) (Z : Ze) (L : Boxes) (H : Heap) (w : World) (ψ' : Ps) (Z' : Ze) (L' : Boxes) (H' : Heap) (w' : World) : Prop where
  mem : MemR cx ψ' Z' L' H' w'
  ext : Ext (ph ψ) (ph ψ') Z Z' w w'
  ps : ∀ o p, ψ o = some p → ψ' o = some p
  fr : Fr ψ ψ' (look L H) (look L' H') w w'
  ver : (H' = H ∧ ∀ i x p, H.get i = some x → ψ (.inl i) = some p → w'.heap[p.1]? = w.heap[p.1]?) ∨ H.ver < H'.ver
  zz : ∀ b, b < w.heap.size → ¬ Owned ψ (look L H) b → Z' b = Z b

theorem Goes.refl {cx : Cx} {ψ : Ps} {Z : Ze} {L : Boxes} {H : Heap} {w : World} (h : MemR cx ψ Z L H w) : Goes cx ψ Z L H w ψ Z L H w :=
  ⟨h, Ext.refl _ _ _, fun _ _ h => h, Fr.refl _ _ _, .inl ⟨rfl, fun _ _ _ _ _ => rfl⟩, fun _ _ _ => rfl⟩
theorem Goes.trans {cx : Cx} {ψ ψ1 ψ2 : Ps} {Z Z1 Z2 : Ze} {L L1 L2 : Boxes} {H H1 H2 : Heap} {w w1 w2 : World} (a : Goes cx ψ Z L H w ψ1 Z1 L1 H1 w1) (b : Goes cx ψ1 Z1 L1 H1 w1 ψ2 Z2 L2 H2 w2) : Goes cx ψ Z L H w ψ2 Z2 L2 H2 w2 := by
  refine ⟨b.mem, a.ext.trans b.ext, fun o p h => b.ps o p (a.ps o p h), a.fr.trans a.ext.size b.fr, ?_, fun c hc ho => (b.zz c (Nat.lt_of_lt_of_le hc a.ext.size) (a.fr.own c hc ho)).trans (a.zz c hc ho)⟩
  rcases a.ver with ⟨h1, k1⟩ | h1 <;> rcases b.ver with ⟨h2, k2⟩ | h2
  · subst h1; subst h2
    exact .inl ⟨rfl, fun i x p hx hp => (k2 i x p hx (a.ps _ _ hp)).trans (k1 i x p hx hp)⟩
  · subst h1; exact .inr h2
  · subst h2; exact .inr h1
  · exact .inr (Nat.lt_trans h1 h2)

/-- The place of an entry: the i-th, born so. -/
def StR (fm : Fm) (ψ : Ps) (Z : Ze) (H : Heap) (w : World) (id : Nat) (key : AV) (n : Int) : Prop :=
  ∃ (es : List (AV × AV)) (p : Nat × Nat) (ms : Array MapEntry) (clk i : Nat), H.get id = some (.map es) ∧ ψ (.inl id) = some p ∧ w.heap[p.1]? = some (.map ms clk) ∧ (∃ m : MapEntry, ms[i]? = some m ∧ (m.born : Int) = n ∧ VR fm (ph ψ) Z w key m.key) ∧ ∃ v0, (key, v0) ∈ es

def TVR (fm : Fm) (ψ : Ps) (Z : Ze) (H : Heap) (w : World) : TV → Value → Prop
  | .v a, val => VR fm (ph ψ) Z w a val
  | .bx k g off, val => ∃ b e, ψ (.inr (k, g)) = some (b, e) ∧ val = .pointer (some ⟨b, e + off, none⟩)
  | .st id key ver ex, val => ver ≤ H.ver ∧ ∃ n : Int, (if ex then val = .int .i64 n else ∃ v0, val = .tuple #[v0, .int .i64 n]) ∧ (ver = H.ver → StR fm ψ Z H w id key n)

theorem TVR.goes {cx : Cx} {ψ ψ1 : Ps} {Z Z1 : Ze} {L L1 : Boxes} {H H1 : Heap} {w w1 : World} (a : Goes cx ψ Z L H w ψ1 Z1 L1 H1 w1) {t : TV} {v : Value} (h : TVR cx.fm ψ Z H w t v) : TVR cx.fm ψ1 Z1 H1 w1 t v := by
  cases t with
  | v a' => exact VR.ext a.ext h
  | bx k g off => obtain ⟨b, e, h1, h2⟩ := h; exact ⟨b, e, a.ps _ _ h1, h2⟩
  | st id key ver ex =>
    obtain ⟨h1, n, h2, h3⟩ := h
    rcases a.ver with ⟨rfl, k⟩ | k
    · refine ⟨h1, n, h2, fun hv => ?_⟩
      obtain ⟨es, p, ms, clk, i, q1, q2, q3, ⟨m, q4, q6, q7⟩, q5⟩ := h3 hv
      exact ⟨es, p, ms, clk, i, q1, a.ps _ _ q2, (k id _ p q1 q2).trans q3, ⟨m, q4, q6, VR.ext a.ext q7⟩, q5⟩
    · exact ⟨by omega, n, h2, fun hv => by omega⟩

/-- The frame's state. -/
structure SR (cx : Cx) (nt : Nat) (ψ : Ps) (Z : Ze) (s : St) (a : Act) (w : World) : Prop where
  defers : a.defers = []
  size : a.tmps.size = nt
  tmps : ∀ k, TVR cx.fm ψ Z s.H w (lget s.T k) (a.tmps.getD k undef)
  mem : MemR cx ψ Z s.L s.H w

theorem okVal1_vr {fm : Fm} {φ : Ph} {Z : Ze} {w : World} : ∀ {v : Value} {a : AV}, okVal1 v a = true → VR fm φ Z w a v := by
  intro v a h
  unfold okVal1 at h
  split at h
  · rename_i x y
    have : x = y := by simpa using h
    subst this; exact .bool _
  · simp at h; obtain ⟨rfl, rfl⟩ := h; exact .int _ _
  · have h' := of_decide_eq_true h
    rename_i s l
    have : s = ⟨⟨l⟩⟩ := by cases s with | mk d => cases d; simp at h'; simp [h']
    rw [this]; exact .str _
  · exact .nilp
  · exact .plnil
  · exact .nilm
  · exact .nilf
  · exact .nili
  · simp at h
theorem okVals_vrs {fm : Fm} {φ : Ph} {Z : Ze} {w : World} : ∀ {vs : List Value} {as : List AV}, okVals vs as = true → VRs fm φ Z w as vs
  | [], [], _ => .nil
  | [], _ :: _, h => by simp [okVals] at h
  | _ :: _, [], h => by simp [okVals] at h
  | v :: vs, a :: as, h => by
    simp only [okVals, Bool.and_eq_true] at h
    exact .cons (okVal1_vr h.1) (okVals_vrs h.2)
theorem glOk_mem : ∀ {gl : List (Nat × List Value)} {g : Nat} {cs : List AV}, glOk gl g cs = true → ∃ vs, (g, vs) ∈ gl ∧ okVals vs cs = true
  | [], _, _, h => by simp [glOk] at h
  | (g', vs) :: r, g, cs, h => by
    unfold glOk at h
    split at h
    · rename_i hb; have := Nat.eq_of_beq_eq_true hb; subst this; exact ⟨vs, by simp, h⟩
    · obtain ⟨vs', h1, h2⟩ := glOk_mem h; exact ⟨vs', by simp [h1], h2⟩

section
variable {cx : Cx} {nt : Nat} {ψ : Ps} {Z : Ze} {s : St} {a : Act} {w : World}

theorem SR.opd (h : SR cx nt ψ Z s a w) {x : Operand} {y : AOpd} (hk : okOpd cx x y = true) : TVR cx.fm ψ Z s.H w (ev s.T y) (a.eval x) := by
  unfold okOpd at hk
  split at hk
  · have := Nat.eq_of_beq_eq_true hk; subst this; exact h.tmps _
  · exact okVal1_vr hk
  · refine VR.func _ _ [] [] #[] #[] (of_decide_eq_true hk) rfl rfl (fun i h => by simp at h) (fun i h => by simp at h)
  · rename_i g cs
    obtain ⟨vs, h1, h2⟩ := glOk_mem hk
    obtain ⟨h3, h4⟩ := h.mem.gl _ h1
    have hv := okVals_vrs (fm := cx.fm) (φ := ph ψ) (Z := Z) (w := w) h2
    have hl := hv.len
    refine VR.fp cs g 0 (fun i => vs.getD i undef) (.inl (by simp at h3 ⊢; omega)) (fun i hi => ?_) (fun i hi => ?_)
    · have : vs[i]? = some (vs.getD i undef) := by simp [List.getD, List.getElem?_eq_getElem (show i < vs.length by omega)]
      simpa using h4 i _ this
    · have := hv.at_ i hi (by omega)
      simpa [List.getD, List.getElem?_eq_getElem (show i < vs.length by omega)] using this
  · simp at hk
theorem SR.opda (h : SR cx nt ψ Z s a w) {x : Operand} {y : AOpd} (hk : okOpd cx x y = true) {v : AV} (hv : eva s.T y = some v) : VR cx.fm (ph ψ) Z w v (a.eval x) := by
  have := h.opd hk
  unfold eva at hv
  split at hv
  · rename_i b hb; simp at hv; subst hv; rw [hb] at this; exact this
  · simp at hv
theorem SR.opdv (h : SR cx nt ψ Z s a w) {x : Operand} {y : AOpd} (hk : okOpd cx x y = true) {v : AV} (hv : ev s.T y = .v v) : VR cx.fm (ph ψ) Z w v (a.eval x) :=
  h.opda hk (by unfold eva; rw [hv])
theorem SR.opds (h : SR cx nt ψ Z s a w) : ∀ {xs : List Operand} {ys : List AOpd} (_ : okOpds cx xs ys = true) {vs : List AV} (_ : evas s.T ys = some vs), VRs cx.fm (ph ψ) Z w vs (xs.map a.eval)
  | [], [], _, vs, hv => by simp [evas] at hv; subst hv; exact .nil
  | [], _ :: _, hk, _, _ => by simp [okOpds] at hk
  | _ :: _, [], hk, _, _ => by simp [okOpds] at hk
  | x :: xs, y :: ys, hk, vs, hv => by
    simp only [okOpds, Bool.and_eq_true] at hk
    unfold evas at hv
    split at hv
    · rename_i b l h1 h2; simp at hv; subst hv; exact .cons (h.opda hk.1 h1) (h.opds hk.2 h2)
    · simp at hv
end

/-- What an operation does that stands for one of the abstract machine's. -/
def OpRes (P : Program) (o : Oper) (a : Act) (w : World) (val : Value) (w' : World) : Prop :=
  (execOp a.eval o).run P w = .ok (.value val) w' ∨ ((execOp a.eval o).run P w = .ok .skip w' ∧ val = undef)

def OpSim (cx : Cx) (ψ : Ps) (Z : Ze) (s : St) (a : Act) (w : World) (o : Oper) (tv : TV) (L' : Boxes) (H' : Heap) : Prop :=
  ∃ val w' ψ' Z', OpRes cx.P o a w val w' ∧ Goes cx ψ Z s.L s.H w ψ' Z' L' H' w' ∧ TVR cx.fm ψ' Z' H' w' tv val

theorem opSim_pure {cx : Cx} {nt : Nat} {ψ : Ps} {Z : Ze} {s : St} {a : Act} {w : World} (h : SR cx nt ψ Z s a w) {o : Oper} {val : Value} {tv : TV} (hr : (execOp a.eval o).run cx.P w = .ok (.value val) w) (hv : TVR cx.fm ψ Z s.H w tv val) :
    OpSim cx ψ Z s a w o tv s.L s.H := ⟨val, w, ψ, Z, .inl hr, Goes.refl h.mem, hv⟩

/-! ### the checks -/
def kindOf (P : Program) (t : TypeId) : Option KK :=
  match P.underlying t with
  | some (.int k) => some (.i k)
  | some .string => some .s
  | some .bool => some .b
  | _ => none
def okFields (P : Program) : List Field → Nat → List KK → Bool
  | [], _, [] => true
  | f :: r, i, k :: ks => decide (f.name ≠ "_") && Nat.beq f.offset i && decide (kindOf P f.type = some k) && okFields P r (i + 1) ks
  | _, _, _ => false
def okFlat (P : Program) (t : TypeId) (ks : List KK) : Bool :=
  match P.underlying t with
  | some (.struct fs) => okFields P fs.toList 0 ks && !P.stoodInHeld t && !P.eqGuardType P.depth t
  | some (.array n e) => Nat.beq n ks.length && ks.all (fun k => decide (kindOf P e = some k)) && decide ((P.info? e).map (·.size) = some 1) && !P.eqGuardType P.depth t
  | _ => false
def okBTy (P : Program) (t : TypeId) : BTy → Bool
  | .sc => true
  | .bool => match P.underlying t with | some .bool => true | _ => false
  | .slice => match P.underlying t with | some (.slice _) => true | _ => false
  | .flat ks => okFlat P t ks
def okSize (P : Program) (t : TypeId) (agg : Bool) (n : Nat) : Bool :=
  match P.underlying t with
  | some (.struct _) | some (.array _ _) => agg && decide ((P.info? t).map (·.size) = some n)
  | some _ => !agg && decide ((P.info? t).map (·.size) = some n)
  | none => false
def okZero (P : Program) (t : TypeId) (z : List AV) : Bool :=
  match (P.info? t).bind (·.zero) with
  | some v => okVals v.cells.toList z
  | none => false
def okParts (cx : Cx) (place : Nat → Option (Nat × Nat)) : List (Nat × Operand) → List (Nat × Nat × AOpd) → Bool
  | [], [] => true
  | (i, x) :: r, (off, n, y) :: s => decide (place i = some (off, n)) && okOpd cx x y && okParts cx place r s
  | _, _ => false
def placesOf (P : Program) (fs : Array Field) : Option (Array (Nat × Nat)) := fs.mapM fun f => (P.info? f.type).map fun i => (f.offset, i.size)

def okOO (cx : Cx) : Option Operand → Option AOpd → Bool
  | none, none => true
  | some x, some y => okOpd cx x y
  | _, _ => false
def isU8 (P : Program) (e : TypeId) : Bool := match P.underlying e with | some (.int .u8) => true | _ => false

def okKT (P : Program) (t : TypeId) : KT → Bool
  | .one k => decide (kindOf P t = some k)
  | .flat ks => okFlat P t ks

def okPs (id : Nat) : AOpd → Bool
  | .c (.func g [] []) => Nat.beq g id
  | _ => false

def okOp (cx : Cx) (o : Oper) : AOp → Bool
  | .mv y => match o.op with
    | .move x | .assign x => okOpd cx x y
    | _ => false
  | .pick c a b => match o.op with
    | .pick c' a' b' => okOpd cx c' c && okOpd cx a' a && okOpd cx b' b
    | _ => false
  | .alloc _ z => match o.op with
    | .alloc t => okZero cx.P t z && z.all AV.one
    | _ => false
  | .box _ y => match o.op with
    | .box _ x => okOpd cx x y
    | _ => false
  | .build z ps => match o.op with
    | .build t qs => okZero cx.P t z && (match cx.P.underlying t with
      | some (.struct fs) => match placesOf cx.P fs with
        | some pl => okParts cx (fun i => pl[i]?) qs.toList ps
        | none => false
      | some (.array _ e) => match (cx.P.info? e).map (·.size) with
        | some n => okParts cx (fun i => some (i * n, n)) qs.toList ps
        | none => false
      | _ => false)
    | _ => false
  | .bslice _ n z ps => match o.op with
    | .buildSlice t n' qs => match cx.P.underlying t with
      | some (.slice e) => match (cx.P.info? e).map (·.size), (cx.P.info? e).bind (·.zero) with
        | some m, some zv => Nat.beq n n' && Nat.ble (n * m) 16777216 && okVals (((Array.range (n * m)).map (zv.cells[· % zv.cells.size]!)).toList) z && okParts cx (fun i => some (i * m, m)) qs.toList ps && Nat.ble 1 m && Nat.beq zv.cells.size m
        | _, _ => false
      | _ => false
    | _ => false
  | .load agg n y => match o.op with
    | .load t x => okOpd cx x y && okSize cx.P t agg n
    | _ => false
  | .loadS agg n y => match o.op with
    | .load t x => okOpd cx x y && okSize cx.P t agg n
    | _ => false
  | .store n b y => match o.op with
    | .store t c x => okOpd cx c b && okOpd cx x y && decide ((cx.P.info? t).map (·.size) = some n)
    | _ => false
  | .nilck y => match o.op with
    | .nilCheck x => okOpd cx x y
    | _ => false
  | .bin ty op x y => match o.op with
    | .binOp op' t x' y' _ => decide (op' = op) && okOpd cx x' x && okOpd cx y' y && okBTy cx.P t ty
    | _ => false
  | .not y => match o.op with
    | .unOp .not _ x => okOpd cx x y
    | _ => false
  | .neg y => match o.op with
    | .unOp .neg _ x => okOpd cx x y
    | _ => false
  | .bnot y => match o.op with
    | .unOp .xor _ x => okOpd cx x y
    | _ => false
  | .cint k y => match o.op with
    | .convert src dst x => okOpd cx x y && (cx.P.underlying src).isSome && (match cx.P.underlying dst with | some (.int k') => decide (k = k') | _ => false)
    | _ => false
  | .cstr y => match o.op with
    | .convert src dst x => okOpd cx x y && (cx.P.underlying src).isSome && (match cx.P.underlying dst with | some .string => true | _ => false)
    | _ => false
  | .sbytes y => match o.op with
    | .convert src dst x => okOpd cx x y && (cx.P.underlying src).isSome && (match cx.P.underlying dst with | some (.slice e) => isU8 cx.P e | _ => false)
    | _ => false
  | .bstr y => match o.op with
    | .convert src dst x => okOpd cx x y && (match cx.P.underlying src with | some (.slice e) => isU8 cx.P e | _ => false) && (match cx.P.underlying dst with | some .string => true | _ => false)
    | _ => false
  | .faddr off y => match o.op with
    | .fieldAddr t x i => okOpd cx x y && (match cx.P.underlying t with
      | some (.struct fs) => match fs[i]? with
        | some f => Nat.beq f.offset off && (match (cx.P.info? f.type).map (·.size) with | some (_ + 1) => true | _ => false)
        | none => false
      | _ => false)
    | _ => false
  | .field agg off n y => match o.op with
    | .field t x i => okOpd cx x y && (match cx.P.underlying t with
      | some (.struct fs) => match fs[i]? with
        | some f => Nat.beq f.offset off && okSize cx.P f.type agg n
        | none => false
      | _ => false)
    | _ => false
  | .iaddr arr esz y j => match o.op with
    | .indexAddr t x i => okOpd cx x y && okOpd cx i j && (match cx.P.underlying t, arr with
      | some (.slice e), none => decide ((cx.P.info? e).map (·.size) = some esz)
      | some (.array n e), some n' => Nat.beq n n' && decide ((cx.P.info? e).map (·.size) = some esz)
      | _, _ => false)
    | _ => false
  | .index y j => match o.op with
    | .index t x i => okOpd cx x y && okOpd cx i j && (match cx.P.underlying t with | some .string => true | _ => false)
    | _ => false
  | .sliceS y lo hi => match o.op with
    | .slice t x l h none => okOpd cx x y && okOO cx l lo && okOO cx h hi && (match cx.P.underlying t with | some .string => true | _ => false)
    | _ => false
  | .sliceL esz y lo hi none => match o.op with
    | .slice t x l h none => okOpd cx x y && okOO cx l lo && okOO cx h hi && (match cx.P.underlying t with | some (.slice e) => decide ((cx.P.info? e).map (·.size) = some esz) | _ => false)
    | _ => false
  | .sliceA n esz y lo hi => match o.op with
    | .slice t x l h none => okOpd cx x y && okOO cx l lo && okOO cx h hi && (match cx.P.underlying t with | some (.array n' e) => Nat.beq n n' && decide ((cx.P.info? e).map (·.size) = some esz) | _ => false)
    | _ => false
  | .lookup kt z ok m k => match o.op with
    | .lookup t x i ok' => okOpd cx x m && okOpd cx i k && (ok == ok') && (match cx.P.underlying t with
      | some (.map key e) => okKT cx.P key kt && (match (cx.P.info? e).bind (·.zero) with
        | some v => (match v, z with
          | .agg cs, .agg l => okVals cs.toList l
          | v, z => okVal1 v z)
        | none => false)
      | _ => false)
    | _ => false
  | .mupd kt m k v => match o.op with
    | .mapUpdate t x i y | .insert t x i y => okOpd cx x m && okOpd cx i k && okOpd cx y v && (match cx.P.underlying t with
      | some (.map key e) => okKT cx.P key kt
      | _ => false)
    | _ => false
  | .ins kt m k v => match o.op with
    | .insert t x i y => okOpd cx x m && okOpd cx i k && okOpd cx y v && (match cx.P.underlying t with
      | some (.map key e) => okKT cx.P key kt
      | _ => false)
    | _ => false
  | .ment kt z m k => match o.op with
    | .mapEntry t x i => okOpd cx x m && okOpd cx i k && (match cx.P.underlying t with
      | some (.map key e) => okKT cx.P key kt && (match (cx.P.info? e).bind (·.zero) with
        | some v => (match v, z with
          | .agg cs, .agg l => okVals cs.toList l
          | v, z => okVal1 v z)
        | none => false)
      | _ => false)
    | _ => false
  | .estore m st v => match o.op with
    | .entryStore _ x y z => okOpd cx x m && okOpd cx y st && okOpd cx z v
    | _ => false
  | .mkmap => match o.op with
    | .makeMap _ none => true
    | _ => false
  | .mkslice esz bytes z l c => match o.op with
    | .makeSlice t x y => okOpd cx x l && okOpd cx y c && (match cx.P.underlying t with
      | some (.slice e) => decide ((cx.P.info? e).map (·.size) = some esz) && decide ((cx.P.info? e).map (·.bytes) = some bytes) && okZero cx.P e z && Nat.beq z.length esz && Nat.ble 1 esz
      | _ => false)
    | _ => false
  | .mkfun g first cap => match o.op with
    | .makeFunc (.func f) xs ys => decide (cx.fm f = some g) && okOpds cx xs.toList first && okOpds cx ys.toList cap
    | _ => false
  | .extract i y => match o.op with
    | .extract x j => okOpd cx x y && Nat.beq i j
    | _ => false
  | .app _ esz bytes y z => match o.op with
    | .call c => match c.callee with
      | .builtin .append => match c.args.toList, c.argTypes.toList with
        | [x1, x2], [t1, t2] => okOpd cx x1 y && okOpd cx x2 z && (match cx.P.underlying t1 with
          | some (.slice e) => decide ((cx.P.info? e).map (·.size) = some esz) && decide ((cx.P.info? e).map (·.bytes) = some bytes) && (match (cx.P.info? e).bind (·.zero) with | some v => Nat.beq v.cells.size esz | none => false) && (match cx.P.underlying t2 with | some (.int _) => false | some _ => true | none => false)
          | _ => false)
        | _, _ => false
      | _ => false
    | _ => false
  | .appS _ esz bytes y z => match o.op with
    | .call c => match c.callee with
      | .builtin .append => match c.args.toList, c.argTypes.toList with
        | [x1, x2], [t1, t2] => okOpd cx x1 y && okOpd cx x2 z && (match cx.P.underlying t1 with
          | some (.slice e) => decide ((cx.P.info? e).map (·.size) = some esz) && decide ((cx.P.info? e).map (·.bytes) = some bytes) && (match (cx.P.info? e).bind (·.zero) with | some v => Nat.beq v.cells.size esz | none => false) && (match cx.P.underlying t2 with | some (.int _) => false | some _ => true | none => false)
          | _ => false)
        | _, _ => false
      | _ => false
    | _ => false
  | .clr esz z y => match o.op with
    | .call c => match c.callee with
      | .builtin .clear => match c.args.toList, c.argTypes.toList with
        | [x], [t] => okOpd cx x y && (match cx.P.underlying t with
          | some (.slice e) => okZero cx.P e z && Nat.ble 1 z.length
          | _ => false)
        | _, _ => false
      | _ => false
    | _ => false
  | .len ty y => match o.op with
    | .call c => match c.callee with
      | .builtin .len => match c.args.toList, c.argTypes.toList with
        | [x], [t] => okOpd cx x y && (match cx.P.underlying t, ty with
          | some .string, 0 | some (.slice _), 1 | some (.map _ _), 2 => true
          | _, _ => false)
        | _, _ => false
      | _ => false
    | _ => false
  | .max ys => match o.op with
    | .call c => match c.callee with
      | .builtin .max => okOpds cx c.args.toList ys
      | _ => false
    | _ => false
  | .min ys => match o.op with
    | .call c => match c.callee with
      | .builtin .min => okOpds cx c.args.toList ys
      | _ => false
    | _ => false
  | .call f ys => match o.op with
    | .call c => match c.callee with
      | .value x => okOpd cx x f && okOpds cx c.args.toList ys
      | _ => false
    | .range t x => okPs rangeId f && okOpds cx [x] ys && (match cx.P.underlying t with | some (.map _ _) => true | _ => false)
    | .next x false => okPs nextId f && okOpds cx [x] ys
    | .entry x => okPs entryId f && okOpds cx [x] ys
    | _ => false
  | _ => false

end Go.Am
