/- The interpreter for the kernel, second half: slots in a tree, code, calls. -/
import Derived.Test.YtjjcongjjikifaaAmX
import Derived.Test.YtjjcongjjikifaaAmE
set_option linter.unusedVariables false
set_option linter.unusedSimpArgs false
namespace Go.Am

inductive Tr where
  | lf
  | nd (v : TV) (l r : Tr)
noncomputable def tgetR (T : Tr) : Nat → TV := @Tr.rec (fun _ => Nat → TV) (fun _ => .undef) (fun x _ _ il ir k => @Nat.rec (fun _ => TV) x (fun k' _ => @Bool.rec (fun _ => TV) (ir (k' / 2)) (il (k' / 2)) (Nat.beq (k' % 2) 0)) k) T
noncomputable def tnew (v : TV) (f : Nat) : Nat → Tr := @Nat.rec (fun _ => Nat → Tr) (fun _ => .lf) (fun _ ih k => @Nat.rec (fun _ => Tr) (.nd v .lf .lf) (fun k' _ => @Bool.rec (fun _ => Tr) (.nd .undef .lf (ih (k' / 2))) (.nd .undef (ih (k' / 2)) .lf) (Nat.beq (k' % 2) 0)) k) f
noncomputable def tsetR (T : Tr) : Nat → TV → Tr := @Tr.rec (fun _ => Nat → TV → Tr) (fun k v => tnew v (Nat.succ k) k) (fun x l r il ir k v => @Nat.rec (fun _ => Tr) (.nd v l r) (fun k' _ => @Bool.rec (fun _ => Tr) (.nd x l (ir (k' / 2) v)) (.nd x (il (k' / 2) v) r) (Nat.beq (k' % 2) 0)) k) T

theorem tgetR_lf (k : Nat) : tgetR .lf k = .undef := rfl
theorem tgetR_nd (x : TV) (l r : Tr) (k : Nat) : tgetR (.nd x l r) k = if k = 0 then x else if (k - 1) % 2 = 0 then tgetR l ((k - 1) / 2) else tgetR r ((k - 1) / 2) := by
  cases k with
  | zero => rfl
  | succ k =>
    show @Bool.rec (fun _ => TV) (tgetR r (k / 2)) (tgetR l (k / 2)) (Nat.beq (k % 2) 0) = _
    simp only [Nat.succ_ne_zero, if_false, Nat.add_sub_cancel]
    by_cases h : k % 2 = 0
    · rw [h]; rfl
    · rw [if_neg h]
      have : Nat.beq (k % 2) 0 = false := by
        cases hb : Nat.beq (k % 2) 0 with
        | false => rfl
        | true => exact absurd (Nat.eq_of_beq_eq_true hb) h
      rw [this]
theorem tnew_get (v : TV) : ∀ (f k j : Nat), k < f → tgetR (tnew v f k) j = if j = k then v else .undef := by
  intro f
  induction f with
  | zero => intro k j h; omega
  | succ f ih =>
    intro k j h
    cases k with
    | zero =>
      show tgetR (.nd v .lf .lf) j = _
      rw [tgetR_nd]
      by_cases hj : j = 0
      · simp [hj]
      · simp [hj, tgetR_lf]
    | succ k =>
      show tgetR (@Bool.rec (fun _ => Tr) (.nd .undef .lf (tnew v f (k / 2))) (.nd .undef (tnew v f (k / 2)) .lf) (Nat.beq (k % 2) 0)) j = _
      by_cases hk : k % 2 = 0
      · have : Nat.beq (k % 2) 0 = true := by rw [hk]; rfl
        rw [this]
        show tgetR (.nd .undef (tnew v f (k / 2)) .lf) j = _
        rw [tgetR_nd, ih _ _ (by omega)]
        by_cases hj : j = 0
        · subst hj; simp
        · by_cases hj2 : (j - 1) % 2 = 0
          · by_cases he : (j - 1) / 2 = k / 2
            · have : j = k + 1 := by omega
              simp [this, hk]
            · have : ¬ j = k + 1 := by omega
              simp [hj, hj2, he, this]
          · have : ¬ j = k + 1 := by omega
            simp [hj, hj2, this, tgetR_lf]
      · have : Nat.beq (k % 2) 0 = false := by
          cases hb : Nat.beq (k % 2) 0 with
          | false => rfl
          | true => exact absurd (Nat.eq_of_beq_eq_true hb) hk
        rw [this]
        show tgetR (.nd .undef .lf (tnew v f (k / 2))) j = _
        rw [tgetR_nd, ih _ _ (by omega)]
        by_cases hj : j = 0
        · subst hj; simp
        · by_cases hj2 : (j - 1) % 2 = 0
          · have : ¬ j = k + 1 := by omega
            simp [hj, hj2, this, tgetR_lf]
          · by_cases he : (j - 1) / 2 = k / 2
            · have : j = k + 1 := by omega
              simp [this, hk]
            · have : ¬ j = k + 1 := by omega
              simp [hj, hj2, he, this]
theorem tset_get (v : TV) : ∀ (T : Tr) (k j : Nat), tgetR (tsetR T k v) j = if j = k then v else tgetR T j := by
  intro T
  induction T with
  | lf =>
    intro k j
    show tgetR (tnew v (k + 1) k) j = _
    rw [tnew_get v _ _ _ (by omega), tgetR_lf]
  | nd x l r ihl ihr =>
    intro k j
    cases k with
    | zero =>
      show tgetR (.nd v l r) j = _
      rw [tgetR_nd, tgetR_nd]
      by_cases hj : j = 0 <;> simp [hj]
    | succ k =>
      show tgetR (@Bool.rec (fun _ => Tr) (.nd x l (tsetR r (k / 2) v)) (.nd x (tsetR l (k / 2) v) r) (Nat.beq (k % 2) 0)) j = _
      by_cases hk : k % 2 = 0
      · have : Nat.beq (k % 2) 0 = true := by rw [hk]; rfl
        rw [this]
        show tgetR (.nd x (tsetR l (k / 2) v) r) j = _
        rw [tgetR_nd, tgetR_nd, ihl]
        by_cases hj : j = 0
        · subst hj; simp
        · by_cases hj2 : (j - 1) % 2 = 0
          · by_cases he : (j - 1) / 2 = k / 2
            · have : j = k + 1 := by omega
              simp [this, hk]
            · have : ¬ j = k + 1 := by omega
              simp [hj, hj2, he, this]
          · have : ¬ j = k + 1 := by omega
            simp [hj, hj2, this]
      · have : Nat.beq (k % 2) 0 = false := by
          cases hb : Nat.beq (k % 2) 0 with
          | false => rfl
          | true => exact absurd (Nat.eq_of_beq_eq_true hb) hk
        rw [this]
        show tgetR (.nd x l (tsetR r (k / 2) v)) j = _
        rw [tgetR_nd, tgetR_nd, ihr]
        by_cases hj : j = 0
        · subst hj; simp
        · by_cases hj2 : (j - 1) % 2 = 0
          · have : ¬ j = k + 1 := by omega
            simp [hj, hj2, this]
          · by_cases he : (j - 1) / 2 = k / 2
            · have : j = k + 1 := by omega
              simp [this, hk]
            · have : ¬ j = k + 1 := by omega
              simp [hj, hj2, he, this]

structure SX where
  T : Tr
  L : Boxes
  H : Heap
  om : List Nat
structure RX (s : St) (x : SX) : Prop where
  T : ∀ k, lget s.T k = tgetR x.T k
  L : s.L = x.L
  H : s.H = x.H
  om : s.om = x.om
noncomputable def evX (t : Tr) : AOpd → TV := @AOpd.rec (fun _ => TV) (fun k => tgetR t k) (fun a => .v a)
theorem evX_eq {s : St} {x : SX} (h : RX s x) : evX x.T = ev s.T := by
  funext o; cases o with
  | t k => exact (h.T k).symm
  | c a => rfl

def AOp.asCall : AOp → Option (AOpd × List AOpd)
  | .call f xs => some (f, xs)
  | _ => none
def AOp.asStore : AOp → Option AOpd
  | .store _ a _ => some a
  | _ => none
noncomputable def wantedE (E : AOpd → TV) (g : Option (Nat × Bool)) : Bool :=
  match g with
  | none => true
  | some (k, b) => match E (.t k) with
    | .v (.bool c) => c == b
    | _ => false
noncomputable def semXE (o : AOper) (E : AOpd → TV) (L : Boxes) (H : Heap) : R :=
  match o.op.reads with
  | true => match semE o.op o.dst E (hideB L o.hide) (if o.nh then Heap.empty else H) with
    | some (v, _, _) => some (v, L, H)
    | none => none
  | false => match o.op.asStore, o.hide with
    | some a, [k] => match E a with
      | .bx k' _ _ => if Nat.beq k' k then semE o.op o.dst E L H else none
      | _ => none
    | _, _ => semE o.op o.dst E L H
noncomputable def opE (call : Caller) (o : AOper) (E : AOpd → TV) (L : Boxes) (H : Heap) (om : List Nat) : Option (TV × Boxes × Heap × List Nat) :=
  match wantedE E o.guard with
  | true => match o.op.asCall with
    | some (f, args) => match evaE E f, evasE E args with
      | some (.func g first cap), some as => match call g ((first ++ as) ++ cap) H om with
        | some (v, h, om') => some (.v v, L, { h with ver := h.ver + 1 }, om')
        | none => none
      | _, _ => none
    | none => match semXE o E L H with
      | some (v, L', H') => some (v, L', H', om)
      | none => none
  | false => some (.undef, L, H, om)

theorem semXE_eq (o : AOper) (T : List TV) (L : Boxes) (H : Heap) : semXE o (ev T) L H = semX o T L H := by
  unfold semXE semX
  simp only [semE_eq]
  cases hr : o.op.reads with
  | true => rfl
  | false =>
    simp only [Bool.false_eq_true, if_false]
    cases hop : o.op with
    | store n a x =>
      simp only [AOp.asStore]
      split
      · rename_i h1 h2; cases h1; rw [h2]; rfl
      · rename_i h1
        split
        · rename_i h2 h3; cases h2; exact absurd h3 (h1 _ _ rfl)
        · rfl
    | _ => simp only [AOp.asStore]
theorem opE_eq (call : Caller) (o : AOper) (T : List TV) (L : Boxes) (H : Heap) (om : List Nat) : opE call o (ev T) L H om = opF call o T L H om := by
  unfold opE opF
  have hw : wantedE (ev T) o.guard = wantedA T o.guard := by
    unfold wantedE wantedA
    cases o.guard with
    | none => rfl
    | some p => rfl
  rw [hw, semXE_eq]
  cases wantedA T o.guard with
  | false => rfl
  | true =>
    simp only [if_true]
    cases hop : o.op with
    | call f xs =>
      simp only [AOp.asCall, evaE_eq, evasE_eq, callee]
      cases eva T f with
      | none => rfl
      | some a => cases evas T xs with
        | none => cases a <;> rfl
        | some as => cases a <;> rfl
    | _ => simp only [AOp.asCall] <;> rfl
/-! ### code -/
/-- How much is to be worked out behind an operation. -/
inductive Kd where
  | mv | val | eff | box
def AOp.kd : AOp → Kd
  | .mv _ | .pick _ _ _ | .load _ _ _ | .loadS _ _ _ | .extract _ _ | .nilck _ | .field _ _ _ _ | .lookup _ _ _ _ _ => .mv
  | .alloc _ _ | .box _ _ | .store _ _ _ => .box
  | .bslice _ _ _ _ | .mupd _ _ _ _ | .ins _ _ _ _ | .ment _ _ _ _ | .estore _ _ _ | .mkmap | .mkslice _ _ _ _ _ | .app _ _ _ _ _ | .appS _ _ _ _ _ | .clr _ _ _ | .call _ _ => .eff
  | _ => .val
noncomputable def tputX (T : Tr) (d : Option Nat) (v : TV) : Tr := @Option.rec Nat (fun _ => Tr) T (fun k => tsetR T k v) d
noncomputable def stepX (call : Caller) (o : AOper) (x : SX) : Option SX :=
  match opE call o (evX x.T) x.L x.H x.om with
  | some (v, L, h, om) => @Kd.rec (fun _ => Option SX) (some ⟨tputX x.T o.dst v, L, h, om⟩) (fTV v fun v' => some ⟨tputX x.T o.dst v', L, h, om⟩)
      (fTV v fun v' => fHeap h fun h' => some ⟨tputX x.T o.dst v', L, h', om⟩)
      (fTV v fun v' => some ⟨tputX x.T o.dst v', L, h, om⟩) o.op.kd
  | none => none
noncomputable def stepsX (call : Caller) (l : List AOper) : SX → Option SX := @List.rec AOper (fun _ => SX → Option SX) (fun x => some x) (fun o _ ih x => match stepX call o x with
  | some x' => ih x'
  | none => none) l
noncomputable def frzX (x : SX) (ks : List Nat) : Option SX := @List.rec Nat (fun _ => SX → Option SX) (fun x => some x) (fun k _ ih x => match tgetR x.T k with
  | .v a => ih ⟨tsetR x.T k (.v (freezeAll x.H a).1), x.L, (freezeAll x.H a).2, x.om⟩
  | _ => none) ks x
noncomputable def loopX (body : SX → Option (Ex × SX)) (n : Nat) : SX → Option (Ex × SX) := @Nat.rec (fun _ => SX → Option (Ex × SX)) (fun _ => none) (fun _ ih x => match body x with
  | some (.normal, x') => ih x'
  | r => r) n
noncomputable def execX (call : Caller) (n : Nat) (c : ACode) : SX → Option (Ex × SX) := @ACode.rec (fun _ => SX → Option (Ex × SX))
  (fun x => some (.normal, x))
  (fun l _ x => match stepsX call l x with
    | some x' => some (.normal, x')
    | none => none)
  (fun ks x => match frzX x ks with
    | some x' => some (.normal, x')
    | none => none)
  (fun _ _ iha ihb x => match iha x with
    | some (.normal, x') => ihb x'
    | r => r)
  (fun c _ _ iha ihb x => match evX x.T c with
    | .v (.bool true) => iha x
    | .v (.bool false) => ihb x
    | _ => none)
  (fun id _ ih x => match ih x with
    | some (.exit i, x') => if Nat.beq i id then some (.normal, x') else some (.exit i, x')
    | r => r)
  (fun _ ih x => loopX ih n x)
  (fun id x => some (.exit id, x))
  (fun x => some (.ret, x)) c

def RO {α β : Type} (R : α → β → Prop) : Option α → Option β → Prop
  | some a, some b => R a b
  | none, none => True
  | _, _ => False
def RE (p : Ex × St) (q : Ex × SX) : Prop := p.1 = q.1 ∧ RX p.2 q.2

theorem stepX_rel (call : Caller) (o : AOper) {s : St} {x : SX} (h : RX s x) : RO RX (step call o s) (stepX call o x) := by
  unfold step stepX
  rw [evX_eq h, opE_eq, h.L, h.H, h.om]
  cases opF call o s.T x.L x.H x.om with
  | none => trivial
  | some q =>
    obtain ⟨v, L, hh, om⟩ := q
    dsimp only
    have ht : ∀ j, lget (putT s.T o.dst v) j = tgetR (tputX x.T o.dst v) j := by
      cases o.dst with
      | none => exact h.T
      | some k => intro j; show lget (lset s.T k v) j = tgetR (tsetR x.T k v) j; rw [lget_lset, tset_get, h.T]
    cases o.op.kd <;> simp only [fTV_eq, fBoxes_eq, fHeap_eq] <;> exact ⟨ht, rfl, rfl, rfl⟩

theorem stepsX_rel (call : Caller) : ∀ (l : List AOper) {s : St} {x : SX}, RX s x → RO RX (steps call l s) (stepsX call l x)
  | [], s, x, h => h
  | o :: r, s, x, h => by
    have h1 := stepX_rel call o h
    show RO RX (match step call o s with | some s' => steps call r s' | none => none) (match stepX call o x with | some x' => stepsX call r x' | none => none)
    cases hs : step call o s with
    | none => cases hx : stepX call o x with
      | none => trivial
      | some x' => rw [hs, hx] at h1; exact h1.elim
    | some s' => cases hx : stepX call o x with
      | none => rw [hs, hx] at h1; exact h1.elim
      | some x' => rw [hs, hx] at h1; exact stepsX_rel call r h1

theorem frzX_rel : ∀ (ks : List Nat) {s : St} {x : SX}, RX s x → RO RX (frzT s ks) (frzX x ks)
  | [], s, x, h => h
  | k :: ks, s, x, h => by
    unfold frzT
    show RO RX _ (match tgetR x.T k with | .v a => frzX ⟨tsetR x.T k (.v (freezeAll x.H a).1), x.L, (freezeAll x.H a).2, x.om⟩ ks | _ => none)
    rw [h.T k]
    cases hq : tgetR x.T k with
    | v a =>
      dsimp only
      rw [h.H]
      refine frzX_rel ks ⟨fun j => ?_, h.L, rfl, h.om⟩
      rw [lget_lset, tset_get, h.T]
    | bx => trivial
    | st => trivial

theorem loopX_rel {f : St → Option (Ex × St)} {g : SX → Option (Ex × SX)} (hfg : ∀ s x, RX s x → RO RE (f s) (g x)) : ∀ (n : Nat) {s : St} {x : SX}, RX s x → RO RE (loopN f n s) (loopX g n x)
  | 0, s, x, h => trivial
  | n + 1, s, x, h => by
    have h1 := hfg s x h
    show RO RE (match f s with | some (.normal, s') => loopN f n s' | r => r) (match g x with | some (.normal, x') => loopX g n x' | r => r)
    cases hs : f s with
    | none => cases hx : g x with
      | none => trivial
      | some q => rw [hs, hx] at h1; exact h1.elim
    | some p => cases hx : g x with
      | none => rw [hs, hx] at h1; exact h1.elim
      | some q =>
        rw [hs, hx] at h1
        obtain ⟨e, s'⟩ := p
        obtain ⟨e', x'⟩ := q
        obtain ⟨h2, h3⟩ := h1
        simp only at h2 h3
        subst h2
        cases e with
        | normal => exact loopX_rel hfg n h3
        | exit i => exact ⟨rfl, h3⟩
        | ret => exact ⟨rfl, h3⟩

theorem execX_rel (call : Caller) (n : Nat) : ∀ (c : ACode) {s : St} {x : SX}, RX s x → RO RE (exec call n c s) (execX call n c x) := by
  intro c
  induction c with
  | skip => intro s x h; exact ⟨rfl, h⟩
  | ops l d =>
    intro s x h
    have h1 := stepsX_rel call l h
    show RO RE ((steps call l s).map fun s' => (.normal, s')) (match stepsX call l x with | some x' => some (.normal, x') | none => none)
    cases hs : steps call l s <;> cases hx : stepsX call l x <;> rw [hs, hx] at h1 <;> first | trivial | exact h1.elim | exact ⟨rfl, h1⟩
  | frz ks =>
    intro s x h
    have h1 := frzX_rel ks h
    show RO RE ((frzT s ks).map fun s' => (.normal, s')) (match frzX x ks with | some x' => some (.normal, x') | none => none)
    cases hs : frzT s ks <;> cases hx : frzX x ks <;> rw [hs, hx] at h1 <;> first | trivial | exact h1.elim | exact ⟨rfl, h1⟩
  | seq a b iha ihb =>
    intro s x h
    have h1 := iha h
    show RO RE (match exec call n a s with | some (.normal, s') => exec call n b s' | r => r) (match execX call n a x with | some (.normal, x') => execX call n b x' | r => r)
    cases hs : exec call n a s with
    | none => cases hx : execX call n a x with
      | none => trivial
      | some q => rw [hs, hx] at h1; exact h1.elim
    | some p => cases hx : execX call n a x with
      | none => rw [hs, hx] at h1; exact h1.elim
      | some q =>
        rw [hs, hx] at h1
        obtain ⟨e, s'⟩ := p
        obtain ⟨e', x'⟩ := q
        obtain ⟨h2, h3⟩ := h1
        simp only at h2 h3
        subst h2
        cases e with
        | normal => exact ihb h3
        | exit i => exact ⟨rfl, h3⟩
        | ret => exact ⟨rfl, h3⟩
  | cond p a b iha ihb =>
    intro s x h
    show RO RE (match ev s.T p with | .v (.bool true) => exec call n a s | .v (.bool false) => exec call n b s | _ => none) (match evX x.T p with | .v (.bool true) => execX call n a x | .v (.bool false) => execX call n b x | _ => none)
    rw [evX_eq h]
    split
    · exact iha h
    · exact ihb h
    · trivial
  | block i b ih =>
    intro s x h
    have h1 := ih h
    show RO RE (match exec call n b s with | some (.exit j, s') => if Nat.beq j i then some (.normal, s') else some (.exit j, s') | r => r) (match execX call n b x with | some (.exit j, x') => if Nat.beq j i then some (.normal, x') else some (.exit j, x') | r => r)
    cases hs : exec call n b s with
    | none => cases hx : execX call n b x with
      | none => trivial
      | some q => rw [hs, hx] at h1; exact h1.elim
    | some p => cases hx : execX call n b x with
      | none => rw [hs, hx] at h1; exact h1.elim
      | some q =>
        rw [hs, hx] at h1
        obtain ⟨e, s'⟩ := p
        obtain ⟨e', x'⟩ := q
        obtain ⟨h2, h3⟩ := h1
        simp only at h2 h3
        subst h2
        cases e with
        | normal => exact ⟨rfl, h3⟩
        | exit j =>
          dsimp only
          by_cases hj : Nat.beq j i = true
          · rw [if_pos hj, if_pos hj]; exact ⟨rfl, h3⟩
          · rw [if_neg hj, if_neg hj]; exact ⟨rfl, h3⟩
        | ret => exact ⟨rfl, h3⟩
  | loop b ih =>
    intro s x h
    exact loopX_rel (fun s x h => ih h) n h
  | exit i => intro s x h; exact ⟨rfl, h⟩
  | ret => intro s x h; exact ⟨rfl, h⟩

/-! ### calls -/
noncomputable def startT (args : List AV) : Nat → Tr → Tr := @List.rec AV (fun _ => Nat → Tr → Tr) (fun _ t => t) (fun a _ ih i t => ih (Nat.succ i) (tsetR t i (.v a))) args
theorem startT_get : ∀ (args : List AV) (i : Nat) (t : Tr) (k : Nat), tgetR (startT args i t) k = if i ≤ k ∧ k < i + args.length then lget (args.map .v) (k - i) else tgetR t k
  | [], i, t, k => by
    show tgetR t k = _
    rw [if_neg (by simp only [List.length_nil]; omega)]
  | a :: r, i, t, k => by
    show tgetR (startT r (i + 1) (tsetR t i (.v a))) k = _
    rw [startT_get r, tset_get]
    by_cases hk : k = i
    · subst hk
      rw [if_neg (by omega), if_pos rfl, if_pos (by simp only [List.length_cons]; omega), Nat.sub_self]; rfl
    · by_cases h1 : i + 1 ≤ k ∧ k < i + 1 + r.length
      · rw [if_pos h1, if_pos (by simp; omega)]
        obtain ⟨m, rfl⟩ : ∃ m, k = i + 1 + m := ⟨k - (i + 1), by omega⟩
        have e1 : i + 1 + m - (i + 1) = m := by omega
        have e2 : i + 1 + m - i = m + 1 := by omega
        rw [e1, e2]; rfl
      · rw [if_neg h1, if_neg hk, if_neg (by simp; omega)]

noncomputable def resultE (E : AOpd → TV) (L : Boxes) (H : Heap) (r : ARes) : Option AV :=
  match r with
  | .tmp k => match E (.t k) with
    | .v a => some a
    | _ => none
  | .cell k n agg => match cellsAt L H (E (.t k)) with
    | some cs => asV agg n cs
    | none => none
noncomputable def resultsE (E : AOpd → TV) (L : Boxes) (H : Heap) (l : List ARes) : Option (List AV) := @List.rec ARes (fun _ => Option (List AV)) (some []) (fun r _ ih => match resultE E L H r, ih with
  | some a, some l => some (a :: l)
  | _, _ => none) l
theorem resultsE_eq (s : St) : ∀ (l : List ARes), resultsE (ev s.T) s.L s.H l = resultsA s l
  | [] => rfl
  | r :: l => by
    unfold resultsA
    show (match resultE (ev s.T) s.L s.H r, resultsE (ev s.T) s.L s.H l with | some a, some l => some (a :: l) | _, _ => none) = _
    rw [resultsE_eq s l]
    have : resultE (ev s.T) s.L s.H r = resultA s r := by
      cases r with
      | tmp k => simp only [resultE, resultA]; rfl
      | cell k n agg => simp only [resultE, resultA]; rfl
    rw [this]; rfl
noncomputable def finishX (f : AFunc) (r : Option (Ex × SX)) : Option (AV × Heap × List Nat) :=
  match r with
  | some (.exit _, _) => none
  | some (_, x) => match resultsE (evX x.T) x.L x.H f.results with
    | some l => if f.frz then some ((freezeAll x.H (oneOf l)).1, (freezeAll x.H (oneOf l)).2, x.om) else some (oneOf l, x.H, x.om)
    | none => none
  | none => none
theorem finishX_eq (f : AFunc) {p : Option (Ex × St)} {q : Option (Ex × SX)} (h : RO RE p q) : finishX f q = finish f p := by
  cases p with
  | none => cases q with
    | none => rfl
    | some q => exact h.elim
  | some p => cases q with
    | none => exact h.elim
    | some q =>
      obtain ⟨e, s⟩ := p
      obtain ⟨e', x⟩ := q
      obtain ⟨h1, h2⟩ := h
      simp only at h1 h2
      subst h1
      have key : resultsE (evX x.T) x.L x.H f.results = resultsA s f.results := by rw [evX_eq h2, ← h2.L, ← h2.H, resultsE_eq]
      cases e with
      | exit i => rfl
      | normal =>
        simp only [finishX, finish, key, h2.H, h2.om]
        cases resultsA s f.results <;> rfl
      | ret =>
        simp only [finishX, finish, key, h2.H, h2.om]
        cases resultsA s f.results <;> rfl

noncomputable def callX (prog : Nat → Option AFunc) (n : Nat) : Caller := @Nat.rec (fun _ => Caller) (fun _ _ _ _ => none) (fun n ih g args h om => match prog g with
  | some f => if Nat.beq args.length f.np then fAVs args fun as => match finishX f (execX ih n f.body ⟨startT as 0 .lf, .lf, h, om⟩) with
      | some (v, h', om') => fAV2 v fun v' => fHeap h' fun h'' => some (v', h'', om')
      | none => none
    else none
  | none => match pseudo g args h om with
    | some (v, h', om') => fAV2 v fun v' => fNew h' fun h2 => fHeap h2 fun h3 => some (v', h3, om')
    | none => none) n
theorem callX_eq (prog : Nat → Option AFunc) : ∀ n, callX prog n = callN prog n
  | 0 => rfl
  | n + 1 => by
    funext g args h om
    show (match prog g with
      | some f => if Nat.beq args.length f.np then fAVs args fun as => match finishX f (execX (callX prog n) n f.body ⟨startT as 0 .lf, .lf, h, om⟩) with
          | some (v, h', om') => fAV2 v fun v' => fHeap h' fun h'' => some (v', h'', om')
          | none => none
        else none
      | none => match pseudo g args h om with
        | some (v, h', om') => fAV2 v fun v' => fNew h' fun h2 => fHeap h2 fun h3 => some (v', h3, om')
        | none => none) = _
    simp only [callN]
    cases prog g with
    | none =>
      dsimp only
      cases pseudo g args h om with
      | none => rfl
      | some q => obtain ⟨v, h', om'⟩ := q; dsimp only; rw [fAV2_eq, fNew_eq, fHeap_eq]
    | some f =>
      dsimp only
      rw [fAVs_eq, callX_eq prog n]
      have hr : RX (start args h om) ⟨startT args 0 .lf, .lf, h, om⟩ := ⟨fun k => by
        show lget (args.map .v) k = _
        rw [startT_get]
        by_cases hk : k < args.length
        · rw [if_pos (by omega)]; simp
        · rw [if_neg (by omega), tgetR_lf]
          have : ∀ (l : List AV) (k : Nat), ¬ k < l.length → lget (l.map .v) k = .undef := by
            intro l
            induction l with
            | nil => intro k _; cases k <;> rfl
            | cons a l ih => intro k hk; cases k with
              | zero => simp at hk
              | succ k => exact ih k (by simpa using hk)
          exact this args k hk, rfl, rfl, rfl⟩
      rw [finishX_eq f (execX_rel (callN prog n) n f.body hr)]
      cases finish f (exec (callN prog n) n f.body (start args h om)) with
      | none => rfl
      | some q => obtain ⟨v, h', om'⟩ := q; dsimp only; rw [fAV2_eq, fHeap_eq]
end Go.Am
