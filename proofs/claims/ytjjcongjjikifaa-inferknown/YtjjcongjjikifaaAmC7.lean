/- Bytes as a text; append. -/
import Derived.Test.YtjjcongjjikifaaAmC6
set_option linter.unusedVariables false
set_option linter.unusedSimpArgs false
namespace Go.Am

/-- An object gives way to another one on its block. -/
theorem inv_rebind {fm : Fm} {ψ : Ps} {Z Z' : Ze} {lk : Lk} {w w' : World} (h : Inv fm ψ Z lk w) {o o' : OId} {x x' : AObj} {b e e' : Nat} (hx : lk o = some x) (hp : ψ o = some (b, e)) (hn : ψ o' = none)
    (ex : Ext (ph ψ) (ph (ups ψ o' (b, e'))) Z Z' w w') (hsz : w'.heap.size = w.heap.size) (hb : ∀ c, c ≠ b → w'.heap[c]? = w.heap[c]?) (hz : ∀ c, c ≠ b → Z' c = Z c)
    (hzb : 0 < Z' b → ∃ n, rowSize w' b = some n ∧ Z' b ≤ n) (hr : ObjR fm (ph (ups ψ o' (b, e'))) Z' w' x' (b, e')) :
    Inv fm (ups ψ o' (b, e')) Z' (upk (upk lk o none) o' (some x')) w' ∧ Fr ψ (ups ψ o' (b, e')) lk (upk (upk lk o none) o' (some x')) w w' := by
  have old : ∀ o1 x1, o1 ≠ o' → upk (upk lk o none) o' (some x') o1 = some x1 → lk o1 = some x1 ∧ o1 ≠ o := fun o1 x1 h1 h2 => by
    simp only [upk, h1, if_false] at h2
    split at h2
    · simp at h2
    · exact ⟨h2, by assumption⟩
  have nb : ∀ o1 x1 p1, lk o1 = some x1 → o1 ≠ o → ψ o1 = some p1 → p1.1 ≠ b := fun o1 x1 p1 h1 h2 h3 hc => h2 (h.inj o1 o x1 x p1 (b, e) h1 hx h3 hp hc)
  refine ⟨⟨fun o1 x1 h1 => ?_, fun o1 o2 x1 x2 p1 p2 h1 h2 q1 q2 hpp => ?_, fun c hc => ?_⟩, ⟨fun c hc ho => ?_, fun c hc ho => ?_⟩⟩
  · by_cases hq : o1 = o'
    · subst hq; simp only [upk, if_true, Option.some.injEq] at h1; subst h1; exact ⟨_, by simp [ups], hr⟩
    · obtain ⟨k1, k2⟩ := old o1 x1 hq h1
      obtain ⟨q, hq', hq''⟩ := h.obj o1 x1 k1
      exact ⟨q, by simp [ups, hq, hq'], hq''.ext ex (hb _ (nb o1 x1 q k1 k2 hq')) (hz _ (nb o1 x1 q k1 k2 hq'))⟩
  · by_cases e1 : o1 = o' <;> by_cases e2 : o2 = o'
    · rw [e1, e2]
    · obtain ⟨k1, k2⟩ := old o2 x2 e2 h2
      simp only [ups, e1, if_true, Option.some.injEq] at q1
      simp only [ups, e2, if_false] at q2
      exact absurd (by rw [← hpp, ← q1]) (nb o2 x2 p2 k1 k2 q2)
    · obtain ⟨k1, k2⟩ := old o1 x1 e1 h1
      simp only [ups, e2, if_true, Option.some.injEq] at q2
      simp only [ups, e1, if_false] at q1
      exact absurd (by rw [hpp, ← q2]) (nb o1 x1 p1 k1 k2 q1)
    · obtain ⟨k1, k2⟩ := old o1 x1 e1 h1
      obtain ⟨k3, k4⟩ := old o2 x2 e2 h2
      simp only [ups, e1, if_false] at q1
      simp only [ups, e2, if_false] at q2
      exact h.inj o1 o2 x1 x2 p1 p2 k1 k3 q1 q2 hpp
  · by_cases hcb : c = b
    · subst hcb; exact hzb hc
    · rw [hz c hcb] at hc ⊢
      obtain ⟨n, hn', hle⟩ := h.zs c hc
      exact ⟨n, ex.rows c n hn', hle⟩
  · exact hb c fun hcb => ho ⟨o, x, (b, e), hx, hp, hcb.symm⟩
  · rintro ⟨o1, x1, p1, h1, h2, h3⟩
    by_cases e1 : o1 = o'
    · simp only [ups, e1, if_true, Option.some.injEq] at h2
      exact ho ⟨o, x, (b, e), hx, hp, by rw [← h3, ← h2]⟩
    · obtain ⟨k1, k2⟩ := old o1 x1 e1 h1
      simp only [ups, e1, if_false] at h2
      exact ho ⟨o1, x1, p1, k1, h2, h3⟩

section
variable {cx : Cx} {nt : Nat} {ψ : Ps} {Z : Ze} {s : St} {a : Act} {w : World} {o : Oper} {tv : TV} {L L' : Boxes} {H H' : Heap}

/-- What a slice holds. -/
theorem slice_src (m : MemR cx ψ Z L H w) {esz : Nat} {A : AV} {v : Value} (hv : VR cx.fm (ph ψ) Z w A v) {xs : List AV} {n : Nat} (hs : sliceCells H esz A = some (xs, n)) :
    ∃ vs : List Value, VRs cx.fm (ph ψ) Z w xs vs ∧ xs.length = n * esz ∧ (∀ (P : Program) (W : World), (Builtin.lenOf v).run P W = .ok n W) ∧ (∀ (P : Program) (W : World), W.heap = w.heap → (Builtin.firstCells esz n v).run P W = .ok vs.toArray W) := by
  have rd : ∀ {b off : Nat} {vs : List Value} {cs : List AV}, CellsR cx.fm (ph ψ) Z w cs b off vs → cs.length = n * esz → ∀ (P : Program) (W : World), W.heap = w.heap → (loadCells ⟨b, off, none⟩ (n * esz)).run P W = .ok vs.toArray W := fun {b off vs cs} hc hl P W hW => by
    rw [← hl, hc.rel.len]
    exact run_loadCells_list W _ vs fun j v hv => by
      rw [add_at]
      have := hc.at_ j v hv
      simpa [World.cell?, hW] using this
  unfold sliceCells at hs
  split at hs
  · rename_i cs ln tk
    split at hs
    · rename_i hb
      have hb := Nat.eq_of_beq_eq_true hb
      simp at hs; obtain ⟨rfl, rfl⟩ := hs
      cases hv with
      | plnil => exact ⟨[], .nil, by simp, fun P W => by simp [Builtin.lenOf], fun P W _ => by simp [Builtin.firstCells]⟩
      | pl _ _ cap _ b off vs hl hz hc hr ht =>
        obtain ⟨us, hu⟩ := CellsR.of_fp (fm := cx.fm) (φ := ph ψ) (Z := Z) (w := w) (.fp _ b off vs hz hc hr)
        exact ⟨us, hu.rel, hb, fun P W => by simp [Builtin.lenOf], fun P W hW => by simp only [Builtin.firstCells]; exact rd hu hb P W hW⟩
    · simp at hs
  · rename_i id off ln e
    split at hs
    · rename_i c hg
      split at hs
      · rename_i hb
        simp only [Bool.and_eq_true] at hb
        have h1 := Nat.eq_of_beq_eq_true hb.1
        have h2 := Nat.le_of_ble_eq_true hb.2
        subst h1
        simp at hs; obtain ⟨rfl, rfl⟩ := hs
        obtain ⟨b, e0, cap, sz, o0, rfl, p1, p2, p3, p4, p5⟩ := sl_inv hv
        obtain ⟨b', e', arr, el, q1, q2, q3, q4, q5⟩ := obj_cells (s := ⟨[], L, H, []⟩) m (o := .inl id) (c := c) (by simp [look, hg])
        have p1' : ψ (.inl id) = some (b, e0) := p1
        rw [p1'] at q1; simp at q1; obtain ⟨rfl, rfl⟩ := q1
        have hc := ((CellsR.of_arr q3 q4 q5).drop off).take (ln * e)
        have hl : ((c.drop off).take (ln * e)).length = ln * e := by simp; omega
        refine ⟨_, hc.rel, hl, fun P W => by simp [Builtin.lenOf], fun P W hW => ?_⟩
        simp only [Builtin.firstCells]
        rcases p5 with rfl | h0
        · exact rd hc hl P W hW
        · have : ln = 0 := by omega
          subst this
          have hn := hc.rel.len
          simp only [Nat.zero_mul] at hl hn ⊢
          simp [loadCells, loadCellsFrom]
      · simp at hs
    · simp at hs
  · rename_i l
    split at hs
    · rename_i hb
      have hb := Nat.eq_of_beq_eq_true hb; subst hb
      simp at hs; obtain ⟨rfl, rfl⟩ := hs
      cases hv
      refine ⟨_, bytes_rel l, by simp, fun P W => by simp [Builtin.lenOf]; rfl, fun P W _ => ?_⟩
      have he : ((⟨⟨l⟩⟩ : ByteArray).extract 0 l.length).data = ⟨l⟩ := by
        simp [ByteArray.data_extract]
      simp [Builtin.firstCells, he]
    · simp at hs
  · simp at hs

theorem unBytes_spec {fm : Fm} {φ : Ph} : ∀ {cs : List AV} {vs : List Value} {l : List UInt8}, VRs fm φ Z w cs vs → unBytes cs = some l → ∃ zs : List Int, vs = zs.map (Value.int .u8) ∧ l = zs.map fun (z : Int) => UInt8.ofNat z.toNat := by
  intro cs vs l hr
  induction hr generalizing l with
  | nil => intro hl; simp [unBytes] at hl; subst hl; exact ⟨[], rfl, rfl⟩
  | @cons A v cs vs hab _ ih =>
    intro hl
    unfold unBytes at hl
    split at hl
    · rename_i hh; simp at hh
    · rename_i n r hq
      simp at hq; obtain ⟨rfl, rfl⟩ := hq
      split at hl
      · rename_i l' hl'
        simp at hl; subst hl
        obtain ⟨zs, e1, e2⟩ := ih hl'
        cases hab
        exact ⟨n :: zs, by simp [e1], by simp [e2]⟩
      · simp at hl
    · simp at hl

theorem sim_bstr (h : SR cx nt ψ Z s a w) {x : AOpd} (hok : okOp cx o (.bstr x) = true) (hs : (AOp.bstr x).sem o.dst s.T s.L s.H = some (tv, L', H')) : OpSim cx ψ Z s a w o tv L' H' := by
  obtain ⟨dst, op', type, pos, after, guard⟩ := o
  simp only [okOp] at hok
  split at hok
  · rename_i src d y
    simp only [Bool.and_eq_true] at hok
    obtain ⟨⟨h1, h2⟩, h3⟩ := hok
    split at h2
    · rename_i e hu
      have he := isU8_spec h2
      split at h3
      · rename_i hd
        simp only [AOp.sem] at hs
        split at hs
        · rename_i A hA
          split at hs
          · rename_i cs n hns hcs
            have hv := h.opda h1 hA
            obtain ⟨vs, hrel, hlen, hlo, hfc⟩ := slice_src h.mem hv hcs
            cases hm : unBytes cs with
            | none => rw [hm] at hs; simp [ret1] at hs
            | some l =>
              rw [hm] at hs
              simp only [Option.map_some, ret1, Option.some.injEq, Prod.mk.injEq] at hs; obtain ⟨rfl, rfl, rfl⟩ := hs
              obtain ⟨zs, rfl, rfl⟩ := unBytes_spec hrel hm
              refine opSim_pure h (val := .string ⟨⟨zs.map fun (z : Int) => UInt8.ofNat z.toNat⟩⟩) ?_ (.str _)
              have hzl : zs.length = n := by have := hrel.len; simp at this; omega
              have conv : (convert src d (a.eval y)).run cx.P w = .ok (.string ⟨⟨zs.map fun (z : Int) => UInt8.ofNat z.toNat⟩⟩) w := by
                have fin : ∀ {b off cap : Nat}, a.eval y = .slice (some ⟨b, off, none⟩) n cap → (∀ i, i < n → w.cell? ⟨b, off + i, none⟩ = some (.int .u8 (zs.getD i 0))) → (convert src d (a.eval y)).run cx.P w = .ok (.string ⟨⟨zs.map fun (z : Int) => UInt8.ofNat z.toNat⟩⟩) w := fun {b off cap} e1 e2 => by
                  rw [e1, run_convert_bytes_arg w src e hu he b off n cap zs hzl e2 d hd]
                  congr 2
                have cells : ∀ {b off : Nat}, CellsR cx.fm (ph ψ) Z w cs b off (zs.map (Value.int .u8)) → ∀ i, i < n → w.cell? ⟨b, off + i, none⟩ = some (.int .u8 (zs.getD i 0)) := fun {b off} hc i hi => by
                  refine hc.at_ i _ ?_
                  simp [List.getD, List.getElem?_eq_getElem (show i < zs.length by omega)]
                unfold sliceCells at hcs
                split at hcs
                · rename_i cs0 ln tk
                  split at hcs
                  · simp at hcs; obtain ⟨rfl, rfl⟩ := hcs
                    generalize hye : a.eval y = vy at hv
                    cases hv with
                    | plnil =>
                      rw [run_convert_bytes_nil w src e hu he 0 0 d hd]
                      have : zs = [] := List.eq_nil_of_length_eq_zero hzl
                      subst this; rfl
                    | pl _ _ cap _ b off us hl hz hc hr ht =>
                      rw [← hye]
                      refine fin hye (fun i hi => ?_)
                      obtain ⟨ws, hw⟩ := CellsR.of_fp (fm := cx.fm) (φ := ph ψ) (Z := Z) (w := w) (.fp _ b off us hz hc hr)
                      have hcl : i < cs0.length := by simp at hlen; omega
                      -- the cell, read twice
                      have q1 := hc i hcl
                      have hf := hfc cx.P w rfl
                      rw [hye] at hf
                      simp only [Builtin.firstCells, Nat.mul_one] at hf
                      have hrun := hw.run (P := cx.P) (n := ln) (by simpa using hlen)
                      rw [hrun] at hf
                      simp at hf
                      have := hw.at_ i (.int .u8 (zs.getD i 0)) (by rw [hf]; simp [List.getD, List.getElem?_eq_getElem (show i < zs.length by omega)])
                      exact this
                  · simp at hcs
                · rename_i id off ln e'
                  split at hcs
                  · rename_i c hg
                    split at hcs
                    · rename_i hb
                      simp only [Bool.and_eq_true] at hb
                      have h1' := Nat.eq_of_beq_eq_true hb.1
                      have h2' := Nat.le_of_ble_eq_true hb.2
                      subst h1'
                      simp only [Option.some.injEq, Prod.mk.injEq] at hcs; obtain ⟨rfl, rfl⟩ := hcs
                      obtain ⟨b, e0, cap, sz, o0, p0, p1, p2, p3, p4, p5⟩ := sl_inv hv
                      obtain ⟨b', e'', arr, el, q1, q2, q3, q4, q5⟩ := obj_cells h.mem (o := .inl id) (c := c) (by simp [look, hg])
                      have p1' : ψ (.inl id) = some (b, e0) := p1
                      rw [p1'] at q1; simp at q1; obtain ⟨rfl, rfl⟩ := q1
                      have hc := ((CellsR.of_arr q3 q4 q5).drop off).take (ln * 1)
                      refine fin p0 (fun i hi => ?_)
                      have ho : o0 = e0 + off := by rcases p5 with h | h <;> omega
                      subst ho
                      have hf := hfc cx.P w rfl
                      rw [p0] at hf
                      simp only [Builtin.firstCells] at hf
                      have hrun := hc.run (P := cx.P) (n := ln * 1) (by simp; omega)
                      rw [hrun] at hf
                      simp at hf
                      refine hc.at_ i _ ?_
                      simp only [Nat.mul_one]
                      rw [hf]; simp [List.getD, List.getElem?_eq_getElem (show i < zs.length by omega)]
                    · simp at hcs
                  · simp at hcs
                · simp [notStr] at hns
                · simp at hcs
              simp only [execOp, Sem.run_bind, conv, Result.andThen_ok, Sem.run_pure]
          · simp at hs
        · simp at hs
      · simp at h3
    · simp at h2
  · simp at hok

end
end Go.Am
