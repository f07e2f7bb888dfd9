/- Operations that write or lay memory: new variables, stores, new slices, append. -/
import Derived.Test.YtjjcongjjikifaaAmC4
set_option linter.unusedVariables false
set_option linter.unusedSimpArgs false
namespace Go.Am

theorem bget_nd (t : Boxes) (k : Nat) : bget t k = if k = 0 then t.v else if (k - 1) % 2 = 0 then bget t.l ((k - 1) / 2) else bget t.r ((k - 1) / 2) := by
  cases t with
  | lf => cases k <;> simp [bget, Boxes.v, Boxes.l, Boxes.r]
  | nd v l r =>
    cases k with
    | zero => simp [bget, Boxes.v]
    | succ k =>
      simp only [bget, Boxes.l, Boxes.r, Nat.add_sub_cancel, Nat.succ_ne_zero, if_false]
      by_cases h : k % 2 = 0
      · simp [h]
      · have : Nat.beq (k % 2) 0 = false := by
          cases hb : Nat.beq (k % 2) 0 with
          | false => rfl
          | true => exact absurd (Nat.eq_of_beq_eq_true hb) h
        rw [this, if_neg h]
theorem bsetF_get (v : List (Nat × List AV)) : ∀ (f : Nat) (t : Boxes) (k j : Nat), k < f → bget (bsetF v f t k) j = if j = k then v else bget t j := by
  intro f
  induction f with
  | zero => intro t k j h; omega
  | succ f ih =>
    intro t k j h
    rw [bget_nd _ j, bget_nd t j]
    cases k with
    | zero =>
      simp only [bsetF, Boxes.v, Boxes.l, Boxes.r]
      by_cases hj : j = 0 <;> simp [hj]
    | succ k =>
      simp only [bsetF]
      by_cases hk : k % 2 = 0
      · have hb : Nat.beq (k % 2) 0 = true := by rw [hk]; rfl
        rw [hb]
        simp only [Boxes.v, Boxes.l, Boxes.r]
        rw [ih _ _ _ (by omega)]
        by_cases hj : j = 0
        · subst hj; simp
        · by_cases hj2 : (j - 1) % 2 = 0
          · by_cases he : (j - 1) / 2 = k / 2
            · have : j = k + 1 := by omega
              simp [this, hk]
            · have : ¬ j = k + 1 := by omega
              simp [hj, hj2, he, this]
          · have : ¬ j = k + 1 := by omega
            simp [hj, hj2, this]
      · have hb : Nat.beq (k % 2) 0 = false := by
          cases hb : Nat.beq (k % 2) 0 with
          | false => rfl
          | true => exact absurd (Nat.eq_of_beq_eq_true hb) hk
        rw [hb]
        simp only [Boxes.v, Boxes.l, Boxes.r]
        rw [ih _ _ _ (by omega)]
        by_cases hj : j = 0
        · subst hj; simp
        · by_cases hj2 : (j - 1) % 2 = 0
          · have : ¬ j = k + 1 := by omega
            simp [hj, hj2, this]
          · by_cases he : (j - 1) / 2 = k / 2
            · have : j = k + 1 := by omega
              simp [this, hk]
            · have : ¬ j = k + 1 := by omega
              simp [hj, hj2, he, this]
theorem bget_bset (L : Boxes) (k : Nat) (v : List (Nat × List AV)) (j : Nat) : bget (bset L k v) j = if j = k then v else bget L j := bsetF_get v (k + 1) L k j (by omega)
theorem bsetF_fuel (v : List (Nat × List AV)) : ∀ (f g : Nat) (t : Boxes) (k : Nat), k < f → k < g → bsetF v f t k = bsetF v g t k := by
  intro f
  induction f with
  | zero => intro g t k h; omega
  | succ f ih =>
    intro g t k h1 h2
    cases g with
    | zero => omega
    | succ g =>
      cases k with
      | zero => rfl
      | succ k =>
        simp only [bsetF]
        rw [ih g t.l (k / 2) (by omega) (by omega), ih g t.r (k / 2) (by omega) (by omega)]
theorem bsetF_set (u v : List (Nat × List AV)) : ∀ (f : Nat) (t : Boxes) (k : Nat), k < f → bsetF v f (bsetF u f t k) k = bsetF v f t k := by
  intro f
  induction f with
  | zero => intro t k h; omega
  | succ f ih =>
    intro t k h
    cases k with
    | zero => rfl
    | succ k =>
      simp only [bsetF]
      cases Nat.beq (k % 2) 0 <;> simp only [Boxes.v, Boxes.l, Boxes.r] <;> rw [ih _ _ (by omega)]
theorem bsetF_comm (u v : List (Nat × List AV)) : ∀ (f : Nat) (t : Boxes) (a b : Nat), a < f → b < f → a ≠ b → bsetF v f (bsetF u f t a) b = bsetF u f (bsetF v f t b) a := by
  intro f
  induction f with
  | zero => intro t a b h; omega
  | succ f ih =>
    intro t a b h1 h2 h3
    cases a with
    | zero => cases b with
      | zero => exact absurd rfl h3
      | succ b =>
        simp only [bsetF, Boxes.v, Boxes.l, Boxes.r]
        cases Nat.beq (b % 2) 0 <;> simp only [Boxes.v, Boxes.l, Boxes.r]
    | succ a => cases b with
      | zero =>
        simp only [bsetF, Boxes.v, Boxes.l, Boxes.r]
        cases Nat.beq (a % 2) 0 <;> simp only [Boxes.v, Boxes.l, Boxes.r]
      | succ b =>
        simp only [bsetF]
        by_cases ha : a % 2 = 0
        · have ea : Nat.beq (a % 2) 0 = true := by rw [ha]; rfl
          by_cases hb : b % 2 = 0
          · have eb : Nat.beq (b % 2) 0 = true := by rw [hb]; rfl
            simp only [ea, eb, Boxes.v, Boxes.l, Boxes.r]
            rw [ih _ _ _ (by omega) (by omega) (by omega)]
          · have eb : Nat.beq (b % 2) 0 = false := by
              cases hq : Nat.beq (b % 2) 0 with
              | false => rfl
              | true => exact absurd (Nat.eq_of_beq_eq_true hq) hb
            simp only [ea, eb, Boxes.v, Boxes.l, Boxes.r]
        · have ea : Nat.beq (a % 2) 0 = false := by
            cases hq : Nat.beq (a % 2) 0 with
            | false => rfl
            | true => exact absurd (Nat.eq_of_beq_eq_true hq) ha
          by_cases hb : b % 2 = 0
          · have eb : Nat.beq (b % 2) 0 = true := by rw [hb]; rfl
            simp only [ea, eb, Boxes.v, Boxes.l, Boxes.r]
          · have eb : Nat.beq (b % 2) 0 = false := by
              cases hq : Nat.beq (b % 2) 0 with
              | false => rfl
              | true => exact absurd (Nat.eq_of_beq_eq_true hq) hb
            simp only [ea, eb, Boxes.v, Boxes.l, Boxes.r]
            rw [ih _ _ _ (by omega) (by omega) (by omega)]
theorem bgen_lt : ∀ {l : List (Nat × List AV)} {g : Nat} {c : List AV}, bgen l g = some c → g < bmax l
  | [], _, _, h => by simp [bgen] at h
  | (i, x) :: r, g, c, h => by
    unfold bgen at h
    unfold bmax
    split at h
    · rename_i hb; have := Nat.eq_of_beq_eq_true hb; subst this
      have := Nat.le_max_left (i + 1) (bmax r); exact this
    · have := bgen_lt h; exact Nat.lt_of_lt_of_le this (Nat.le_max_right _ _)
theorem bgen_bput : ∀ (l : List (Nat × List AV)) (g : Nat) (x : List AV) (j : Nat), bgen (bput l g x) j = if j = g then (bgen l g).map (fun _ => x) else bgen l j
  | [], g, x, j => by simp [bput, bgen]
  | (i, c) :: r, g, x, j => by
    by_cases h1 : i = g
    · subst h1
      have hb : Nat.beq i i = true := Nat.beq_refl i
      simp only [bput, hb, if_true, bgen]
      by_cases h2 : j = i
      · subst h2; simp [hb]
      · have : Nat.beq i j = false := by
          cases hq : Nat.beq i j
          · rfl
          · exact absurd (Nat.eq_of_beq_eq_true hq).symm h2
        simp [h2, this]
    · have hb : Nat.beq i g = false := by
        cases hq : Nat.beq i g
        · rfl
        · exact absurd (Nat.eq_of_beq_eq_true hq) h1
      simp only [bput, hb, Bool.false_eq_true, if_false, bgen]
      rw [bgen_bput r g x j]
      by_cases h2 : j = g
      · subst h2; simp [hb]
      · simp [h2]
theorem bmax_bput : ∀ (l : List (Nat × List AV)) (g : Nat) (x : List AV), bmax (bput l g x) = bmax l
  | [], g, x => rfl
  | (i, c) :: r, g, x => by
    unfold bput
    split
    · rfl
    · simp only [bmax]; rw [bmax_bput r g x]

theorem oget_oset : ∀ (l : List (Nat × AObj)) (j : Nat) (x : AObj) (i : Nat), oget (oset l j x) i = if i = j then some x else oget l i
  | [], j, x, i => by
    by_cases h : i = j
    · subst h; simp [oset, oget, Nat.beq_refl]
    · have : Nat.beq j i = false := by
        cases hq : Nat.beq j i
        · rfl
        · exact absurd (Nat.eq_of_beq_eq_true hq).symm h
      simp [oset, oget, this, h]
  | (a, o) :: r, j, x, i => by
    by_cases h1 : a = j
    · subst h1
      simp only [oset, Nat.beq_refl, if_true, oget]
      by_cases h2 : i = a
      · subst h2; simp [Nat.beq_refl]
      · have : Nat.beq a i = false := by
          cases hq : Nat.beq a i
          · rfl
          · exact absurd (Nat.eq_of_beq_eq_true hq).symm h2
        simp [this, h2]
    · have hb : Nat.beq a j = false := by
        cases hq : Nat.beq a j
        · rfl
        · exact absurd (Nat.eq_of_beq_eq_true hq) h1
      simp only [oset, hb, Bool.false_eq_true, if_false, oget]
      rw [oget_oset r j x i]
      by_cases h2 : i = j
      · subst h2; simp [hb]
      · simp [h2]
theorem oget_odel : ∀ (l : List (Nat × AObj)) (j i : Nat), oget (odel l j) i = if i = j then none else oget l i
  | [], j, i => by simp [odel, oget]
  | (a, o) :: r, j, i => by
    by_cases h1 : a = j
    · subst h1
      simp only [odel, Nat.beq_refl, if_true, oget]
      rw [oget_odel r a i]
      by_cases h2 : i = a
      · simp [h2]
      · have : Nat.beq a i = false := by
          cases hq : Nat.beq a i
          · rfl
          · exact absurd (Nat.eq_of_beq_eq_true hq).symm h2
        simp [this, h2]
    · have hb : Nat.beq a j = false := by
        cases hq : Nat.beq a j
        · rfl
        · exact absurd (Nat.eq_of_beq_eq_true hq) h1
      simp only [odel, hb, Bool.false_eq_true, if_false, oget]
      rw [oget_odel r j i]
      by_cases h2 : i = j
      · subst h2; simp [hb]
      · simp [h2]

theorem look_add (L : Boxes) (H : Heap) (x : AObj) : look L (H.add x) = upk (look L H) (.inl H.next) (some x) := by
  funext o
  cases o with
  | inl i =>
    simp only [look, Heap.get, Heap.add, oget, upk, Sum.inl.injEq]
    by_cases h : i = H.next
    · subst h; simp [Nat.beq_refl]
    · have : Nat.beq H.next i = false := by
        cases hq : Nat.beq H.next i
        · rfl
        · exact absurd (Nat.eq_of_beq_eq_true hq).symm h
      simp [this, h]
  | inr q => simp [look, upk]
theorem look_put (L : Boxes) (H : Heap) (id : Nat) (x : AObj) : look L (H.put id x) = upk (look L H) (.inl id) (some x) := by
  funext o
  cases o with
  | inl i => simp only [look, Heap.get, Heap.put, oget_oset, upk, Sum.inl.injEq]
  | inr q => simp [look, upk]
theorem look_del (L : Boxes) (H : Heap) (id : Nat) : look L (H.del id) = upk (look L H) (.inl id) none := by
  funext o
  cases o with
  | inl i => simp only [look, Heap.get, Heap.del, oget_odel, upk, Sum.inl.injEq]
  | inr q => simp [look, upk]
theorem look_box (L : Boxes) (H : Heap) (k : Nat) (c : List AV) : look (bset L k ((bmax (bget L k), c) :: bget L k)) H = upk (look L H) (.inr (k, bmax (bget L k))) (some (.cells c)) := by
  funext o
  cases o with
  | inl i => simp [look, upk]
  | inr q =>
    obtain ⟨j, g⟩ := q
    simp only [look, bget_bset, upk, Sum.inr.injEq, Prod.mk.injEq]
    by_cases h : j = k
    · subst h
      simp only [if_true, bgen, true_and]
      by_cases h2 : g = bmax (bget L j)
      · subst h2; simp [Nat.beq_refl]
      · have : Nat.beq (bmax (bget L j)) g = false := by
          cases hq : Nat.beq (bmax (bget L j)) g
          · rfl
          · exact absurd (Nat.eq_of_beq_eq_true hq).symm h2
        simp [this, h2]
    · simp [h]
theorem look_bput (L : Boxes) (H : Heap) (k g : Nat) (c c' : List AV) (h : bgen (bget L k) g = some c) : look (bset L k (bput (bget L k) g c')) H = upk (look L H) (.inr (k, g)) (some (.cells c')) := by
  funext o
  cases o with
  | inl i => simp [look, upk]
  | inr q =>
    obtain ⟨j, i⟩ := q
    simp only [look, bget_bset, upk, Sum.inr.injEq, Prod.mk.injEq]
    by_cases h1 : j = k
    · subst h1
      simp only [if_true, bgen_bput, true_and]
      by_cases h2 : i = g
      · subst h2; simp [h]
      · simp [h2]
    · simp [h1]

section
variable {cx : Cx} {nt : Nat} {ψ : Ps} {Z : Ze} {s : St} {a : Act} {w : World} {o : Oper} {tv : TV} {L L' : Boxes} {H H' : Heap}

theorem MemR.none_of (m : MemR cx ψ Z L H w) {o : OId} (h : ψ o = none) : look L H o = none := by
  cases hl : look L H o with
  | none => rfl
  | some x => obtain ⟨p, hp, _⟩ := m.inv.obj o x hl; rw [h] at hp; simp at hp

theorem goes_addH (m : MemR cx ψ Z L H w) {x : AObj} {ob : Obj} (hr : ObjR cx.fm (ph (ups ψ (.inl H.next) (w.heap.size, 0))) Z (addB w ob) x (w.heap.size, 0)) :
    Goes cx ψ Z L H w (ups ψ (.inl H.next) (w.heap.size, 0)) Z L (H.add x) (addB w ob) := by
  have hn := m.freshH H.next (Nat.le_refl _)
  obtain ⟨i1, e1, f1⟩ := inv_add m.inv (o := .inl H.next) (m.none_of hn) hn hr
  rw [← look_add] at i1 f1
  refine ⟨⟨i1, fun i hi => ?_, fun k g hg => ?_, m.gl.ext e1⟩, e1, fun q p hq => ?_, f1, .inr (by simp [Heap.add]), fun _ _ _ => rfl⟩
  · have hi : H.next + 1 ≤ i := hi
    have : i ≠ H.next := by omega
    simp only [ups, Sum.inl.injEq, this, if_false]; exact m.freshH i (by omega)
  · simp only [ups]; exact m.freshL k g hg
  · unfold ups; split
    · rename_i hq'; subst hq'; rw [hn] at hq; simp at hq
    · exact hq
theorem goes_addL (m : MemR cx ψ Z L H w) {k : Nat} {c : List AV} {ob : Obj} (hr : ObjR cx.fm (ph (ups ψ (.inr (k, bmax (bget L k))) (w.heap.size, 0))) Z (addB w ob) (.cells c) (w.heap.size, 0)) :
    Goes cx ψ Z L H w (ups ψ (.inr (k, bmax (bget L k))) (w.heap.size, 0)) Z (bset L k ((bmax (bget L k), c) :: bget L k)) H (addB w ob) := by
  have hn := m.freshL k _ (Nat.le_refl _)
  obtain ⟨i1, e1, f1⟩ := inv_add m.inv (o := .inr (k, bmax (bget L k))) (m.none_of hn) hn hr
  rw [← look_box] at i1 f1
  refine ⟨⟨i1, fun i hi => ?_, fun k' g hg => ?_, m.gl.ext e1⟩, e1, fun q p hq => ?_, f1, .inl ⟨rfl, fun i x p hx hp => ?_⟩, fun _ _ _ => rfl⟩
  · simp only [ups]; exact m.freshH i hi
  · simp only [bget_bset] at hg
    by_cases hk : k' = k
    · subst hk
      simp only [if_true, bmax] at hg
      have h1 := Nat.le_max_left (bmax (bget L k') + 1) (bmax (bget L k'))
      have h2 : bmax (bget L k') + 1 ≤ g := Nat.le_trans h1 hg
      have hne : g ≠ bmax (bget L k') := by omega
      simp only [ups, Sum.inr.injEq, Prod.mk.injEq, true_and, hne, if_false]
      exact m.freshL k' g (by omega)
    · simp only [hk, if_false] at hg
      simp only [ups, Sum.inr.injEq, Prod.mk.injEq, hk, false_and, if_false]
      exact m.freshL k' g hg
  · unfold ups; split
    · rename_i hq'; subst hq'; rw [hn] at hq; simp at hq
    · exact hq
  · obtain ⟨p', hp', hr'⟩ := m.inv.obj (.inl i) x hx
    rw [hp] at hp'; simp at hp'; subst hp'
    have : p.1 < w.heap.size := by
      cases x with
      | cells c => obtain ⟨_, arr, el, h2, _⟩ := hr'; exact lt_of_heap h2
      | map es => obtain ⟨_, arr, el, _, h2, _⟩ := hr'; exact lt_of_heap h2
      | tok => obtain ⟨_, arr, el, h2, _⟩ := hr'; exact lt_of_heap h2
      | iter _ _ _ => exact hr'.lt
    rw [addB_get, if_neg (by omega)]

theorem z_new (m : MemR cx ψ Z L H w) : Z w.heap.size = 0 := by
  rcases Nat.eq_zero_or_pos (Z w.heap.size) with h0 | h0
  · exact h0
  · obtain ⟨n, hn, _⟩ := m.inv.zs _ h0; have := rowSize_lt hn; omega

theorem ph_ups {ψ : Ps} {o : OId} {p : Nat × Nat} (h : ψ o = none) : ∀ i x, ph ψ i = some x → ph (ups ψ o p) i = some x := fun i y hy => by
  unfold ph ups at *; split
  · rename_i heq; rw [heq] at hy; rw [h] at hy; simp at hy
  · exact hy

theorem objR_new (m : MemR cx ψ Z L H w) {c : List AV} {vs : List Value} {rest : Array Value} {el : TypeId} {o : OId} (hn : ψ o = none) (hc : VRs cx.fm (ph ψ) Z w c vs) :
    ObjR cx.fm (ph (ups ψ o (w.heap.size, 0))) Z (addB w (.cells (vs.toArray ++ rest) el)) (.cells c) (w.heap.size, 0) := by
  refine ⟨z_new m, vs.toArray ++ rest, el, by rw [addB_get, if_pos rfl], by have := hc.len; simp; omega, ?_⟩
  have e1 : ((vs.toArray ++ rest).toList.drop 0).take c.length = vs := by simp [hc.len]
  rw [e1]
  exact hc.ext ((ext_addB m.inv.zs).trans (ext_ph (ph_ups hn)))

theorem newBox_sim (h : SR cx nt ψ Z s a w) {dst : Option Nat} {priv : Bool} {c : List AV} {v : Value} {t : TypeId} (hc : VRs cx.fm (ph ψ) Z w c v.cells.toList) (hs : newBox s.L s.H dst priv c = some (tv, L', H')) :
    ∃ val w' ψ', (do pure (.pointer (some (← newVar t v))) : Sem Value).run cx.P w = .ok val w' ∧ Goes cx ψ Z s.L s.H w ψ' Z L' H' w' ∧ TVR cx.fm ψ' Z H' w' tv val := by
  have hrun : (do pure (.pointer (some (← newVar t v))) : Sem Value).run cx.P w = .ok (.pointer (some ⟨w.heap.size, 0, none⟩)) (addB w (.cells v.cells t)) := by
    simp [newVar, newRow, addB]
  have hvc : v.cells.toList.toArray ++ #[] = v.cells := by simp
  unfold newBox at hs
  split at hs
  · split at hs
    · rename_i k
      simp only [Option.some.injEq, Prod.mk.injEq] at hs; obtain ⟨rfl, rfl, rfl⟩ := hs
      have hr := objR_new h.mem (rest := #[]) (el := t) (h.mem.freshL k _ (Nat.le_refl _)) hc
      rw [hvc] at hr
      exact ⟨_, _, _, hrun, goes_addL h.mem hr, w.heap.size, 0, by simp [ups], rfl⟩
    · simp at hs
  · simp only [Option.some.injEq, Prod.mk.injEq] at hs; obtain ⟨rfl, rfl, rfl⟩ := hs
    have hr := objR_new h.mem (rest := #[]) (el := t) (h.mem.freshH _ (Nat.le_refl _)) hc
    rw [hvc] at hr
    exact ⟨_, _, _, hrun, goes_addH h.mem hr, .ptr _ _ _ 0 (by simp [ph, ups])⟩

theorem sim_alloc (h : SR cx nt ψ Z s a w) {priv : Bool} {z : List AV} (hok : okOp cx o (.alloc priv z) = true) (hs : (AOp.alloc priv z).sem o.dst s.T s.L s.H = some (tv, L', H')) : OpSim cx ψ Z s a w o tv L' H' := by
  obtain ⟨dst, op', type, pos, after, guard⟩ := o
  simp only [okOp] at hok
  split at hok
  · rename_i t
    simp only [Bool.and_eq_true] at hok
    obtain ⟨v, hv1, hv2⟩ := okZero_run hok.1 (fm := cx.fm) (φ := ph ψ) (Z := Z) (w := w)
    simp only [AOp.sem] at hs
    obtain ⟨val, w', ψ', hr, hg, ht⟩ := newBox_sim h (t := t) hv2 hs
    refine ⟨val, w', ψ', Z, .inl ?_, hg, ht⟩
    have : (execOp a.eval ⟨dst, .alloc t, type, pos, after, guard⟩).run cx.P w = ((do pure (.pointer (some (← newVar t v))) : Sem Value).run cx.P w).andThen fun x w => .ok (.value x) w := by
      simp only [execOp, Instr.alloc, Sem.run_bind, hv1, Result.andThen_ok, Sem.run_pure]
    rw [this, hr]; rfl
  · simp at hok

theorem sim_box (h : SR cx nt ψ Z s a w) {priv : Bool} {x : AOpd} (hok : okOp cx o (.box priv x) = true) (hs : (AOp.box priv x).sem o.dst s.T s.L s.H = some (tv, L', H')) : OpSim cx ψ Z s a w o tv L' H' := by
  obtain ⟨dst, op', type, pos, after, guard⟩ := o
  simp only [okOp] at hok
  split at hok
  · rename_i t y
    simp only [AOp.sem] at hs
    split at hs
    · rename_i A hA
      obtain ⟨val, w', ψ', hr, hg, ht⟩ := newBox_sim h (t := t) (cells_rel (h.opda hok hA)) hs
      refine ⟨val, w', ψ', Z, .inl ?_, hg, ht⟩
      have : (execOp a.eval ⟨dst, .box t y, type, pos, after, guard⟩).run cx.P w = ((do pure (.pointer (some (← newVar t (a.eval y)))) : Sem Value).run cx.P w).andThen fun x w => .ok (.value x) w := by
        simp only [execOp, Instr.box, Sem.run_bind, Sem.run_pure]
      rw [this, hr]; rfl
    · simp at hs
  · simp at hok

theorem sim_mkmap (h : SR cx nt ψ Z s a w) (hok : okOp cx o .mkmap = true) (hs : AOp.mkmap.sem o.dst s.T s.L s.H = some (tv, L', H')) : OpSim cx ψ Z s a w o tv L' H' := by
  obtain ⟨dst, op', type, pos, after, guard⟩ := o
  simp only [okOp] at hok
  split at hok
  · rename_i t
    simp only [AOp.sem, Option.some.injEq, Prod.mk.injEq] at hs; obtain ⟨rfl, rfl, rfl⟩ := hs
    have hr : ObjR cx.fm (ph (ups ψ (.inl s.H.next) (w.heap.size, 0))) Z (addB w (.map #[] 0)) (.map []) (w.heap.size, 0) :=
      ⟨z_new h.mem, #[], 0, [], by rw [addB_get, if_pos rfl], .refl _, KD.nil, .nil, by simp, by simp⟩
    exact ⟨.map (some w.heap.size), _, _, Z, .inl (by simp [execOp, Instr.makeMap, addB]), goes_addH h.mem hr, .map _ _ 0 (by simp [ph, ups])⟩
  · simp at hok

/-! stores -/
theorem setRow_setB {w : World} {g : Nat} {old cs : Array Value} {t : TypeId} {fr : Nat × Nat} (hg : w.heap[g]? = some (.cells old t fr)) : w.setRow g cs = setB w g (.cells cs t fr) := by
  have hlt := lt_of_heap hg
  have hv : w.heap[g] = .cells old t fr := (Array.getElem?_eq_some_iff.1 hg).2
  unfold World.setRow setB
  congr 1
  apply Array.ext_getElem?
  intro i
  rw [Array.getElem?_modify, Array.getElem?_setIfInBounds]
  by_cases h : g = i
  · subst h; simp [hlt, hg, hv]
  · simp [h]

theorem one_cell {fm : Fm} {φ : Ph} {A : AV} {v : Value} (h : VR fm φ Z w A v) (ho : A.one = true) : v.oneCell' = true := by
  cases h <;> first | rfl | simp [AV.one] at ho
theorem ones {fm : Fm} {φ : Ph} : ∀ {as : List AV} {vs : List Value} (_ : VRs fm φ Z w as vs) (_ : as.all AV.one = true), ∀ v ∈ vs, v.oneCell' = true := by
  intro as vs h
  induction h with
  | nil => intro _ v hv; simp at hv
  | cons hab _ ih =>
    intro ho v hv
    simp only [List.all_cons, Bool.and_eq_true] at ho
    simp at hv
    rcases hv with rfl | hv
    · exact one_cell hab ho.1
    · exact ih ho.2 v hv

/-- Cells of an object are written. -/
theorem write_cells (m : MemR cx ψ Z L H w) {o : OId} {c : List AV} {b e off : Nat} (hl : look L H o = some (.cells c)) (hp : ψ o = some (b, e)) {xs : List AV} {vs : List Value} (hx : VRs cx.fm (ph ψ) Z w xs vs) (h1 : xs.all AV.one = true) (hfit : off + xs.length ≤ c.length) :
    ∃ w', (storeCells ⟨b, e + off, none⟩ vs).run cx.P w = .ok () w' ∧ Inv cx.fm ψ Z (upk (look L H) o (some (.cells (splice c off xs)))) w' ∧ Ext (ph ψ) (ph ψ) Z Z w w' ∧ Fr ψ ψ (look L H) (upk (look L H) o (some (.cells (splice c off xs)))) w w' ∧ (∀ b', b' ≠ b → w'.heap[b']? = w.heap[b']?) := by
  obtain ⟨b', e', arr, el, q1, q2, q3, q4, q5⟩ := obj_cells (s := ⟨[], L, H, []⟩) m hl
  rw [hp] at q1; simp at q1; obtain ⟨rfl, rfl⟩ := q1
  have hlen := hx.len
  have hst := run_storeCells_at cx.P b (e + off) el vs 0 arr w q3 (by omega) (ones hx h1)
  simp only [Nat.add_zero] at hst
  rw [setRow_setB q3] at hst
  generalize harr' : (arr.toList.take (e + off) ++ vs ++ arr.toList.drop (e + off + vs.length)).toArray = arr' at hst
  have hsz : arr'.size = arr.size := by rw [← harr']; simp; omega
  have hext : Ext (ph ψ) (ph ψ) Z Z w (setB w b (.cells arr' el (0, 0))) := ext_setB q3 hsz (fun i hi => by omega)
  have hb : ∀ b', b' ≠ b → (setB w b (.cells arr' el (0, 0))).heap[b']? = w.heap[b']? := fun b' hb' => by rw [setB_get, if_neg hb']
  have hcells : VRs cx.fm (ph ψ) Z w (splice c off xs) ((arr'.toList.drop e).take (splice c off xs).length) := by
    have hspl : (splice c off xs).length = c.length := by simp [splice]; omega
    rw [hspl]
    have e1 : (arr'.toList.drop e).take c.length = ((arr.toList.drop e).take c.length).take off ++ (vs ++ ((arr.toList.drop e).take c.length).drop (off + xs.length)) := by
      rw [← harr']
      apply List.ext_getElem?
      intro i
      simp only [List.getElem?_take, List.getElem?_drop, List.getElem?_append, List.length_take, List.length_append, List.length_drop, Array.length_toList]
      repeat' split
      all_goals first | rfl | omega | (congr 1; omega) | skip
    rw [e1]
    exact (q5.take off).append (hx.append (q5.drop (off + xs.length)))
  have hobj : ObjR cx.fm (ph ψ) Z (setB w b (.cells arr' el (0, 0))) (.cells (splice c off xs)) (b, e) := by
    refine ⟨q2, arr', el, by rw [setB_get, if_pos rfl, if_pos (lt_of_heap q3)], ?_, hcells.ext hext⟩
    have hspl : (splice c off xs).length = c.length := by simp [splice]; omega
    rw [hspl, hsz]; exact q4
  obtain ⟨i1, f1⟩ := inv_set m.inv hl hp hext (setB_size _ _ _) hb hobj
  exact ⟨_, hst, i1, hext, f1, hb⟩

theorem sim_store (h : SR cx nt ψ Z s a w) {n : Nat} {x y : AOpd} (hok : okOp cx o (.store n x y) = true) (hs : (AOp.store n x y).sem o.dst s.T s.L s.H = some (tv, L', H')) : OpSim cx ψ Z s a w o tv L' H' := by
  obtain ⟨dst, op', type, pos, after, guard⟩ := o
  simp only [okOp] at hok
  split at hok
  · rename_i t c z
    simp only [Bool.and_eq_true, decide_eq_true_eq] at hok
    obtain ⟨⟨h1, h2⟩, h3⟩ := hok
    have hv := h.opd h1
    have run : ∀ {b e : Nat} {A : AV} {w' : World}, a.eval c = .pointer (some ⟨b, e, none⟩) → VR cx.fm (ph ψ) Z w A (a.eval z) → A.cells.length = n → (storeCells ⟨b, e, none⟩ (a.eval z).cells.toList).run cx.P w = .ok () w' →
        (execOp a.eval ⟨dst, .store t c z, type, pos, after, guard⟩).run cx.P w = .ok .skip w' := fun {b e A w'} he hA hn hr => by
      have hsz : (a.eval z).cells.size = n := by rw [← hn, (cells_rel hA).len]; simp
      simp only [execOp, he, Instr.storeAt, Sem.run_bind, Instr.sureAddr, Sem.run_pure, Result.andThen_ok, storeVar, run_sizeOf h3, hsz, ne_eq, not_true_eq_false, if_false, hr]
    simp only [AOp.sem] at hs
    split at hs
    · rename_i k g off A hx hA
      split at hs
      · rename_i cs hg
        split at hs
        · rename_i hb
          simp only [Bool.and_eq_true] at hb
          obtain ⟨⟨b1, b2⟩, b3⟩ := hb
          have b1 := Nat.eq_of_beq_eq_true b1
          have b2 := Nat.le_of_ble_eq_true b2
          simp only [Option.some.injEq, Prod.mk.injEq] at hs; obtain ⟨rfl, rfl, rfl⟩ := hs
          rw [hx] at hv; obtain ⟨b, e, p1, p2⟩ := hv
          have hA' := h.opda h2 hA
          obtain ⟨w', r1, r2, r3, r4, r5⟩ := write_cells h.mem (o := .inr (k, g)) (c := cs) (off := off) (by simp [look, hg]) p1 (cells_rel hA') b3 (by omega)
          rw [← look_bput s.L s.H k g cs _ hg] at r2 r4
          refine ⟨undef, w', ψ, Z, .inr ⟨run p2 hA' b1 r1, rfl⟩, ⟨⟨r2, h.mem.freshH, fun k' g' hg' => ?_, h.mem.gl.ext r3⟩, r3, fun _ _ hh => hh, r4, .inl ⟨rfl, fun i x p hi hp => r5 _ ?_⟩, fun _ _ _ => rfl⟩, .tup _ _ rfl (fun i q => by simp at q)⟩
          · simp only [bget_bset] at hg'
            split at hg'
            · rename_i hk; subst hk; rw [bmax_bput] at hg'; exact h.mem.freshL _ _ hg'
            · exact h.mem.freshL _ _ hg'
          · intro hc
            have := h.mem.inv.inj (.inl i) (.inr (k, g)) x (.cells cs) p (b, e) hi (by simp [look, hg]) hp p1 hc
            simp at this
        · simp at hs
      · simp at hs
    · rename_i id off A hx hA
      split at hs
      · rename_i cs hg
        split at hs
        · rename_i hb
          simp only [Bool.and_eq_true] at hb
          obtain ⟨⟨b1, b2⟩, b3⟩ := hb
          have b1 := Nat.eq_of_beq_eq_true b1
          have b2 := Nat.le_of_ble_eq_true b2
          simp only [Option.some.injEq, Prod.mk.injEq] at hs; obtain ⟨rfl, rfl, rfl⟩ := hs
          rw [hx] at hv; obtain ⟨b, e, p1, p2⟩ := ptr_form hv
          have hA' := h.opda h2 hA
          have p1' : ψ (.inl id) = some (b, e) := p1
          obtain ⟨w', r1, r2, r3, r4, r5⟩ := write_cells h.mem (o := .inl id) (c := cs) (off := off) (by simp [look, hg]) p1' (cells_rel hA') b3 (by omega)
          rw [← look_put] at r2 r4
          exact ⟨undef, w', ψ, Z, .inr ⟨run p2 hA' b1 r1, rfl⟩, ⟨⟨r2, h.mem.freshH, h.mem.freshL, h.mem.gl.ext r3⟩, r3, fun _ _ hh => hh, r4, .inr (by simp [Heap.put]), fun _ _ _ => rfl⟩, .tup _ _ rfl (fun i q => by simp at q)⟩
        · simp at hs
      · simp at hs
    · simp at hs
  · simp at hok

end
end Go.Am
