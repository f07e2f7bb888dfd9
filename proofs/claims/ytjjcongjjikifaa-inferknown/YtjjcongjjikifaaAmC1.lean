/- Operations that change nothing: each of the abstract machine's stands for the model's. -/
import Derived.Test.YtjjcongjjikifaaAmC
set_option linter.unusedVariables false
set_option linter.unusedSimpArgs false
namespace Go.Am
section
variable {cx : Cx} {nt : Nat} {ψ : Ps} {Z : Ze} {s : St} {a : Act} {w : World} {o : Oper} {tv : TV} {L' : Boxes} {H' : Heap}

theorem sim_mv (h : SR cx nt ψ Z s a w) {x : AOpd} (hok : okOp cx o (.mv x) = true) (hs : (AOp.mv x).sem o.dst s.T s.L s.H = some (tv, L', H')) : OpSim cx ψ Z s a w o tv L' H' := by
  simp only [AOp.sem, Option.some.injEq, Prod.mk.injEq] at hs
  obtain ⟨rfl, rfl, rfl⟩ := hs
  obtain ⟨dst, op, type, pos, after, guard⟩ := o
  simp only [okOp] at hok
  split at hok
  · rename_i y
    exact opSim_pure h (val := a.eval y) (by simp [execOp]) (h.opd hok)
  · rename_i y
    exact opSim_pure h (val := a.eval y) (by simp [execOp]) (h.opd hok)
  · simp at hok

theorem bool_inv {fm : Fm} {φ : Ph} {Z : Ze} {w : World} {b : Bool} {v : Value} (h : VR fm φ Z w (.bool b) v) : v = .bool b := by cases h; rfl
theorem int_inv {fm : Fm} {φ : Ph} {Z : Ze} {w : World} {k : IntKind} {n : Int} {v : Value} (h : VR fm φ Z w (.int k n) v) : v = .int k n := by cases h; rfl
theorem str_inv {fm : Fm} {φ : Ph} {Z : Ze} {w : World} {l : List UInt8} {v : Value} (h : VR fm φ Z w (.str l) v) : v = .string ⟨⟨l⟩⟩ := by cases h; rfl

theorem sim_pick (h : SR cx nt ψ Z s a w) {c x y : AOpd} (hok : okOp cx o (.pick c x y) = true) (hs : (AOp.pick c x y).sem o.dst s.T s.L s.H = some (tv, L', H')) : OpSim cx ψ Z s a w o tv L' H' := by
  simp only [AOp.sem] at hs
  split at hs
  · rename_i t ht
    simp only [Option.some.injEq, Prod.mk.injEq] at hs
    obtain ⟨rfl, rfl, rfl⟩ := hs
    obtain ⟨dst, op, type, pos, after, guard⟩ := o
    simp only [okOp] at hok
    split at hok
    · rename_i c' x' y'
      simp only [Bool.and_eq_true] at hok
      have hc := bool_inv (h.opdv hok.1.1 ht)
      refine opSim_pure h (val := if t then a.eval x' else a.eval y') (by simp [execOp, hc, asBool]) ?_
      cases t
      · simpa using h.opd hok.2
      · simpa using h.opd hok.1.2
    · simp at hok
  · simp at hs

theorem sim_not (h : SR cx nt ψ Z s a w) {x : AOpd} (hok : okOp cx o (.not x) = true) (hs : (AOp.not x).sem o.dst s.T s.L s.H = some (tv, L', H')) : OpSim cx ψ Z s a w o tv L' H' := by
  simp only [AOp.sem] at hs
  split at hs
  · rename_i b hb
    simp only [Option.some.injEq, Prod.mk.injEq] at hs
    obtain ⟨rfl, rfl, rfl⟩ := hs
    obtain ⟨dst, op, type, pos, after, guard⟩ := o
    simp only [okOp] at hok
    split at hok
    · rename_i t y
      have hc := bool_inv (h.opdv hok hb)
      exact opSim_pure h (val := .bool (!b)) (by simp [execOp, hc, Op.unary]) (.bool _)
    · simp at hok
  · simp at hs

theorem sim_neg (h : SR cx nt ψ Z s a w) {x : AOpd} (hok : okOp cx o (.neg x) = true) (hs : (AOp.neg x).sem o.dst s.T s.L s.H = some (tv, L', H')) : OpSim cx ψ Z s a w o tv L' H' := by
  simp only [AOp.sem] at hs
  split at hs
  · rename_i k b hb
    simp only [Option.some.injEq, Prod.mk.injEq] at hs
    obtain ⟨rfl, rfl, rfl⟩ := hs
    obtain ⟨dst, op, type, pos, after, guard⟩ := o
    simp only [okOp] at hok
    split at hok
    · rename_i t y
      have hc := int_inv (h.opdv hok hb)
      exact opSim_pure h (val := .int k (k.wrap (0 - b))) (by simp [execOp, hc, Op.unary, Op.intArith]) (.int _ _)
    · simp at hok
  · simp at hs

theorem sim_bnot (h : SR cx nt ψ Z s a w) {x : AOpd} (hok : okOp cx o (.bnot x) = true) (hs : (AOp.bnot x).sem o.dst s.T s.L s.H = some (tv, L', H')) : OpSim cx ψ Z s a w o tv L' H' := by
  simp only [AOp.sem] at hs
  split at hs
  · rename_i k b hb
    simp only [ret1, binInt, Option.map_some, Option.some.injEq, Prod.mk.injEq] at hs
    obtain ⟨rfl, rfl, rfl⟩ := hs
    obtain ⟨dst, op, type, pos, after, guard⟩ := o
    simp only [okOp] at hok
    split at hok
    · rename_i t y
      have hc := int_inv (h.opdv hok hb)
      exact opSim_pure h (by simp only [execOp, hc, Op.unary, Op.intBits]; rfl) (.int _ _)
    · simp at hok
  · simp at hs

theorem sim_cint (h : SR cx nt ψ Z s a w) {k : IntKind} {x : AOpd} (hok : okOp cx o (.cint k x) = true) (hs : (AOp.cint k x).sem o.dst s.T s.L s.H = some (tv, L', H')) : OpSim cx ψ Z s a w o tv L' H' := by
  simp only [AOp.sem] at hs
  split at hs
  · rename_i k' n hb
    simp only [Option.some.injEq, Prod.mk.injEq] at hs
    obtain ⟨rfl, rfl, rfl⟩ := hs
    obtain ⟨dst, op, type, pos, after, guard⟩ := o
    simp only [okOp] at hok
    split at hok
    · rename_i src d y
      simp only [Bool.and_eq_true] at hok
      obtain ⟨⟨h1, h2⟩, h3⟩ := hok
      have hc := int_inv (h.opdv h1 hb)
      obtain ⟨ds, hds⟩ := Option.isSome_iff_exists.1 h2
      split at h3
      · rename_i k2 hk; have := of_decide_eq_true h3; subst this
        exact opSim_pure h (val := .int k (k.wrap n)) (by simp [execOp, hc, convert, run_underlying hds, run_underlying hk, Conv.intToInt]) (.int _ _)
      · simp at h3
    · simp at hok
  · simp at hs

theorem sim_cstr (h : SR cx nt ψ Z s a w) {x : AOpd} (hok : okOp cx o (.cstr x) = true) (hs : (AOp.cstr x).sem o.dst s.T s.L s.H = some (tv, L', H')) : OpSim cx ψ Z s a w o tv L' H' := by
  simp only [AOp.sem] at hs
  split at hs
  · rename_i l hb
    simp only [Option.some.injEq, Prod.mk.injEq] at hs
    obtain ⟨rfl, rfl, rfl⟩ := hs
    obtain ⟨dst, op, type, pos, after, guard⟩ := o
    simp only [okOp] at hok
    split at hok
    · rename_i src d y
      simp only [Bool.and_eq_true] at hok
      obtain ⟨⟨h1, h2⟩, h3⟩ := hok
      have hc := str_inv (h.opdv h1 hb)
      obtain ⟨ds, hds⟩ := Option.isSome_iff_exists.1 h2
      split at h3
      · rename_i hk
        exact opSim_pure h (val := .string ⟨⟨l⟩⟩) (by simp [execOp, hc, convert, run_underlying hds, run_underlying hk]) (.str _)
      · simp at h3
    · simp at hok
  · simp at hs

theorem sim_index (h : SR cx nt ψ Z s a w) {x i : AOpd} (hok : okOp cx o (.index x i) = true) (hs : (AOp.index x i).sem o.dst s.T s.L s.H = some (tv, L', H')) : OpSim cx ψ Z s a w o tv L' H' := by
  simp only [AOp.sem] at hs
  split at hs
  · rename_i l n hx hi
    split at hs
    · rename_i j hj
      unfold within at hj
      split at hj
      · rename_i hb
        simp only [Option.some.injEq] at hj; subst hj
        have hlt : n.toNat < l.length := by omega
        simp only [ret1, List.getElem?_eq_getElem hlt, Option.map_some, Option.some.injEq, Prod.mk.injEq] at hs
        obtain ⟨rfl, rfl, rfl⟩ := hs
        obtain ⟨dst, op, type, pos, after, guard⟩ := o
        simp only [okOp] at hok
        split at hok
        · rename_i t y z
          simp only [Bool.and_eq_true] at hok
          obtain ⟨⟨h1, h2⟩, h3⟩ := hok
          have hc := str_inv (h.opdv h1 hx)
          unfold toIdx at hi
          split at hi
          · rename_i k m hm; simp at hi; subst hi
            have hd := int_inv (h.opdv h2 hm)
            split at h3
            · rename_i hk
              refine opSim_pure h (val := .int .u8 (l[m.toNat]).toNat) ?_ (.int _ _)
              have hg : (⟨⟨l⟩⟩ : ByteArray)[m.toNat]? = some (l[m.toNat]) := by
                rw [getElem?_pos (⟨⟨l⟩⟩ : ByteArray) m.toNat (by simpa [ByteArray.size] using hlt)]
                rfl
              simp [execOp, hc, hd, Instr.index, asIntOf, run_underlying hk, hb.1, hg]
            · simp at h3
          · simp at hi
        · simp at hok
      · simp at hj
    · simp at hs
  · simp at hs

theorem sim_nilck (h : SR cx nt ψ Z s a w) {x : AOpd} (hok : okOp cx o (.nilck x) = true) (hs : (AOp.nilck x).sem o.dst s.T s.L s.H = some (tv, L', H')) : OpSim cx ψ Z s a w o tv L' H' := by
  obtain ⟨dst, op, type, pos, after, guard⟩ := o
  simp only [okOp] at hok
  split at hok
  · rename_i y
    have hv := h.opd hok
    have key : ∀ {tv' : TV} {ad : Addr}, ev s.T x = tv' → a.eval y = .pointer (some ad) → OpSim cx ψ Z s a w ⟨dst, .nilCheck y, type, pos, after, guard⟩ tv' s.L s.H := fun {tv' ad} e1 e2 =>
      opSim_pure h (val := a.eval y) (by simp [execOp, e2]) (by rw [← e1]; exact hv)
    simp only [AOp.sem] at hs
    split at hs
    · rename_i k g off hx
      simp only [Option.some.injEq, Prod.mk.injEq] at hs; obtain ⟨rfl, rfl, rfl⟩ := hs
      rw [hx] at hv; obtain ⟨b, e, _, h2⟩ := hv
      exact key hx h2
    · rename_i id off hx
      simp only [Option.some.injEq, Prod.mk.injEq] at hs; obtain ⟨rfl, rfl, rfl⟩ := hs
      rw [hx] at hv
      have : ∃ ad, a.eval y = .pointer (some ad) := by generalize a.eval y = v at hv; cases hv; exact ⟨_, rfl⟩
      obtain ⟨ad, h2⟩ := this
      exact key hx h2
    · rename_i cs hx
      simp only [Option.some.injEq, Prod.mk.injEq] at hs; obtain ⟨rfl, rfl, rfl⟩ := hs
      rw [hx] at hv
      have : ∃ ad, a.eval y = .pointer (some ad) := by generalize a.eval y = v at hv; cases hv; exact ⟨_, rfl⟩
      obtain ⟨ad, h2⟩ := this
      exact key hx h2
    · simp at hs
  · simp at hok

/-! pointers -/
theorem fp_drop {fm : Fm} {φ : Ph} {w : World} {cs : List AV} {b off : Nat} (n : Nat) (hn : n ≤ cs.length) (h : VR fm φ Z w (.fp cs) (.pointer (some ⟨b, off, none⟩))) : VR fm φ Z w (.fp (cs.drop n)) (.pointer (some ⟨b, off + n, none⟩)) := by
  cases h with
  | fp _ _ _ vs hz hc hr =>
    refine .fp _ _ _ (fun i => vs (n + i)) ?_ (fun i hi => ?_) (fun i hi => ?_)
    · rcases hz with hz | rfl
      · left; simp; omega
      · right; simp
    · have := hc (n + i) (by simp at hi; omega)
      rwa [← Nat.add_assoc] at this
    · have := hr (n + i) (by simp at hi; omega)
      simpa using this
theorem fp_take {fm : Fm} {φ : Ph} {w : World} {cs : List AV} {b off : Nat} (n : Nat) (h : VR fm φ Z w (.fp cs) (.pointer (some ⟨b, off, none⟩))) : VR fm φ Z w (.fp (cs.take n)) (.pointer (some ⟨b, off, none⟩)) := by
  cases h with
  | fp _ _ _ vs hz hc hr =>
    refine .fp _ _ _ vs ?_ (fun i hi => hc i (by simp at hi; omega)) (fun i hi => ?_)
    · rcases hz with hz | rfl
      · left; simp; omega
      · right; simp
    · have := hr i (by simp at hi; omega)
      simpa using this
theorem ptr_form {fm : Fm} {φ : Ph} {w : World} {id off : Nat} {v : Value} (h : VR fm φ Z w (.ptr id off) v) : ∃ b e, φ id = some (b, e) ∧ v = .pointer (some ⟨b, e + off, none⟩) := by cases h; exact ⟨_, _, by assumption, rfl⟩
theorem fp_form {fm : Fm} {φ : Ph} {w : World} {cs : List AV} {v : Value} (h : VR fm φ Z w (.fp cs) v) : ∃ b off, v = .pointer (some ⟨b, off, none⟩) := by cases h; exact ⟨_, _, rfl⟩

theorem add_at (b o n : Nat) : (⟨b, o, none⟩ : Addr).add n = ⟨b, o + n, none⟩ := Addr.add_lit b o n

theorem sim_faddr (h : SR cx nt ψ Z s a w) {off : Nat} {x : AOpd} (hok : okOp cx o (.faddr off x) = true) (hs : (AOp.faddr off x).sem o.dst s.T s.L s.H = some (tv, L', H')) : OpSim cx ψ Z s a w o tv L' H' := by
  obtain ⟨dst, op, type, pos, after, guard⟩ := o
  simp only [okOp] at hok
  split at hok
  · rename_i t y i
    simp only [Bool.and_eq_true] at hok
    obtain ⟨h1, h2⟩ := hok
    split at h2
    · rename_i fs hu
      split at h2
      · rename_i f hf
        simp only [Bool.and_eq_true] at h2
        obtain ⟨h3, h4⟩ := h2
        have h3 := Nat.eq_of_beq_eq_true h3; subst h3
        have hsz : ∃ i n, cx.P.info? f.type = some i ∧ i.size = n + 1 := by
          revert h4
          cases hq : cx.P.info? f.type with
          | none => intro h4; simp at h4
          | some i => intro h4; cases hz : i.size with
            | zero => simp [hz] at h4
            | succ n => exact ⟨i, n, rfl, hz⟩
        obtain ⟨inf, n, hinf, hn⟩ := hsz
        have hv := h.opd h1
        have run : ∀ b e, a.eval y = .pointer (some ⟨b, e, none⟩) → (execOp a.eval ⟨dst, .fieldAddr t y i, type, pos, after, guard⟩).run cx.P w = .ok (.value (.pointer (some ⟨b, e + f.offset, none⟩))) w := fun b e he => by
          simp [execOp, he, Instr.fieldAt, run_underlying hu, hf, Instr.sureAddr, fieldPlace, sizeOf, typeInfo, hinf, hn, add_at]
        simp only [AOp.sem] at hs
        split at hs
        · rename_i k g e hx
          simp only [Option.some.injEq, Prod.mk.injEq] at hs; obtain ⟨rfl, rfl, rfl⟩ := hs
          rw [hx] at hv; obtain ⟨b, e', p1, p2⟩ := hv
          exact opSim_pure h (run _ _ p2) ⟨b, e', p1, by rw [Nat.add_assoc]⟩
        · rename_i id e hx
          simp only [Option.some.injEq, Prod.mk.injEq] at hs; obtain ⟨rfl, rfl, rfl⟩ := hs
          rw [hx] at hv; obtain ⟨b, e', p1, p2⟩ := ptr_form hv
          refine opSim_pure h (run _ _ p2) ?_
          show VR _ _ _ _ _ _
          rw [Nat.add_assoc]; exact .ptr _ _ _ _ p1
        · rename_i cs hx
          split at hs
          · rename_i hle
            simp only [Option.some.injEq, Prod.mk.injEq] at hs; obtain ⟨rfl, rfl, rfl⟩ := hs
            rw [hx] at hv; obtain ⟨b, e', p2⟩ := fp_form hv
            refine opSim_pure h (run _ _ p2) ?_
            rw [p2] at hv
            exact fp_drop _ (Nat.le_of_ble_eq_true hle) hv
          · simp at hs
        · simp at hs
      · simp at h2
    · simp at h2
  · simp at hok

theorem okSize_info {P : Program} {t : TypeId} {agg : Bool} {n : Nat} (h : okSize P t agg n = true) : ∃ d, P.underlying t = some d ∧ (P.info? t).map (·.size) = some n ∧ (agg = true → (∃ fs, d = .struct fs) ∨ ∃ k e, d = .array k e) ∧ (agg = false → (∀ fs, d ≠ .struct fs) ∧ ∀ k e, d ≠ .array k e) := by
  unfold okSize at h
  split at h
  · rename_i fs hu; simp at h; obtain ⟨rfl, i, hi, hn⟩ := h; exact ⟨_, hu, by simp [hi, hn], fun _ => .inl ⟨_, rfl⟩, by simp⟩
  · rename_i k e hu; simp at h; obtain ⟨rfl, i, hi, hn⟩ := h; exact ⟨_, hu, by simp [hi, hn], fun _ => .inr ⟨_, _, rfl⟩, by simp⟩
  · rename_i d hd1 hd2 hu
    simp at h; obtain ⟨rfl, i, hi, hn⟩ := h
    exact ⟨d, by first | exact hu | rfl, by simp [hi, hn], by simp, fun _ => ⟨fun fs hc => hd1 fs (by first | exact hc ▸ hu | rw [hc]), fun k e hc => hd2 k e (by first | exact hc ▸ hu | rw [hc])⟩⟩
  · simp at h

theorem run_sizeOf {P : Program} {t : TypeId} {n : Nat} (h : (P.info? t).map (·.size) = some n) (w : World) : (sizeOf t).run P w = .ok n w := by
  cases hq : P.info? t with
  | none => simp [hq] at h
  | some i => simp [hq] at h; simp [sizeOf, typeInfo, hq, h]
theorem run_isAgg {P : Program} {t : TypeId} {agg : Bool} {n : Nat} (h : okSize P t agg n = true) (w : World) : (isAgg t).run P w = .ok agg w := by
  obtain ⟨d, hu, _, ha, hb⟩ := okSize_info h
  cases agg with
  | true => rcases ha rfl with ⟨fs, rfl⟩ | ⟨k, e, rfl⟩ <;> simp [isAgg, run_underlying hu]
  | false =>
    obtain ⟨h1, h2⟩ := hb rfl
    cases d <;> simp_all [isAgg, run_underlying hu]

/-- Cells that stand for a list, at a place. -/
structure CellsR (fm : Fm) (φ : Ph) (Z : Ze) (w : World) (cs : List AV) (b off : Nat) (vs : List Value) : Prop where
  rel : VRs fm φ Z w cs vs
  at_ : ∀ i v, vs[i]? = some v → w.cell? ⟨b, off + i, none⟩ = some v

theorem vrs_ofFn {fm : Fm} {φ : Ph} {Z : Ze} {w : World} {cs : List AV} {vs : Nat → Value} (hr : ∀ i (h : i < cs.length), VR fm φ Z w (cs[i]) (vs i)) : VRs fm φ Z w cs ((List.range cs.length).map vs) :=
  vrs_of (by simp) fun i h1 h2 => by simpa using hr i h1

theorem CellsR.of_fp {fm : Fm} {φ : Ph} {w : World} {cs : List AV} {b off : Nat} (h : VR fm φ Z w (.fp cs) (.pointer (some ⟨b, off, none⟩))) : ∃ vs, CellsR fm φ Z w cs b off vs := by
  cases h with
  | fp _ _ _ vs hz hc hr =>
    refine ⟨_, vrs_ofFn hr, fun i v hv => ?_⟩
    have : i < cs.length := by
      rcases Nat.lt_or_ge i cs.length with h | h
      · exact h
      · rw [List.getElem?_eq_none (by simpa using h)] at hv; simp at hv
    simp [this] at hv
    subst hv
    exact hc i this
theorem CellsR.of_arr {fm : Fm} {φ : Ph} {w : World} {cs : List AV} {b e : Nat} {arr : Array Value} {el : TypeId} {fr : Nat × Nat} (hb : w.heap[b]? = some (.cells arr el fr)) (hl : e + cs.length ≤ arr.size)
    (hr : VRs fm φ Z w cs ((arr.toList.drop e).take cs.length)) : CellsR fm φ Z w cs b e ((arr.toList.drop e).take cs.length) := by
  refine ⟨hr, fun i v hv => ?_⟩
  have hi : i < cs.length := by
    rcases Nat.lt_or_ge i cs.length with h | h
    · exact h
    · rw [List.getElem?_eq_none (by simp; omega)] at hv; simp at hv
  simp [List.getElem?_take, hi] at hv
  simp [World.cell?, hb, hv]
theorem CellsR.drop {fm : Fm} {φ : Ph} {w : World} {cs : List AV} {b off : Nat} {vs : List Value} (h : CellsR fm φ Z w cs b off vs) (n : Nat) : CellsR fm φ Z w (cs.drop n) b (off + n) (vs.drop n) :=
  ⟨h.rel.drop n, fun i v hv => by simp at hv; rw [Nat.add_assoc]; exact h.at_ _ v hv⟩
theorem CellsR.take {fm : Fm} {φ : Ph} {w : World} {cs : List AV} {b off : Nat} {vs : List Value} (h : CellsR fm φ Z w cs b off vs) (n : Nat) : CellsR fm φ Z w (cs.take n) b off (vs.take n) :=
  ⟨h.rel.take n, fun i v hv => h.at_ i v (by
    rw [List.getElem?_take] at hv; split at hv
    · exact hv
    · simp at hv)⟩
theorem CellsR.run {fm : Fm} {φ : Ph} {w : World} {cs : List AV} {b off : Nat} {vs : List Value} {P : Program} (h : CellsR fm φ Z w cs b off vs) {n : Nat} (hn : cs.length = n) : (loadCells ⟨b, off, none⟩ n).run P w = .ok vs.toArray w := by
  rw [← hn, h.rel.len]
  exact run_loadCells_list w _ vs fun j v hv => by rw [add_at]; exact h.at_ j v hv

theorem obj_cells (m : MemR cx ψ Z s.L s.H w) {o : OId} {c : List AV} (hl : look s.L s.H o = some (.cells c)) : ∃ b e arr el, ψ o = some (b, e) ∧ Z b = 0 ∧ w.heap[b]? = some (.cells arr el (0, 0)) ∧ e + c.length ≤ arr.size ∧ VRs cx.fm (ph ψ) Z w c ((arr.toList.drop e).take c.length) := by
  obtain ⟨⟨b, e⟩, hp, hz, arr, el, h1, h2, h3⟩ := m.inv.obj o _ hl
  exact ⟨b, e, arr, el, hp, hz, h1, h2, h3⟩

/-- What a pointer points to. -/
theorem cellsAt_real (h : SR cx nt ψ Z s a w) {t : TV} {v : Value} (hv : TVR cx.fm ψ Z s.H w t v) {cs : List AV} (hc : cellsAt s.L s.H t = some cs) : ∃ b off vs, v = .pointer (some ⟨b, off, none⟩) ∧ CellsR cx.fm (ph ψ) Z w cs b off vs := by
  unfold cellsAt at hc
  split at hc
  · rename_i k g off
    obtain ⟨b, e, p1, rfl⟩ := hv
    cases hg : bgen (bget s.L k) g with
    | none => rw [hg] at hc; simp at hc
    | some c =>
      rw [hg] at hc; simp only [Option.bind_some] at hc
      split at hc
      · simp at hc; subst hc
        obtain ⟨b', e', arr, el, q1, q2, q3, q4, q5⟩ := obj_cells h.mem (o := .inr (k, g)) (c := c) (by simp [look, hg])
        rw [p1] at q1; simp at q1; obtain ⟨rfl, rfl⟩ := q1
        exact ⟨_, _, _, rfl, (CellsR.of_arr q3 q4 q5).drop off⟩
      · simp at hc
  · rename_i id off
    obtain ⟨b, e, p1, rfl⟩ := ptr_form hv
    split at hc
    · rename_i c hg
      split at hc
      · simp at hc; subst hc
        obtain ⟨b', e', arr, el, q1, q2, q3, q4, q5⟩ := obj_cells h.mem (o := .inl id) (c := c) (by simp [look, hg])
        have p1' : ψ (.inl id) = some (b, e) := p1
        rw [p1'] at q1; simp at q1; obtain ⟨rfl, rfl⟩ := q1
        exact ⟨_, _, _, rfl, (CellsR.of_arr q3 q4 q5).drop off⟩
      · simp at hc
    · simp at hc
  · simp at hc; subst hc
    obtain ⟨b, off, rfl⟩ := fp_form hv
    obtain ⟨vs, hcr⟩ := CellsR.of_fp hv
    exact ⟨_, _, _, rfl, hcr⟩
  · simp at hc

theorem vr_agg {fm : Fm} {φ : Ph} {w : World} {cs : List AV} {vs : List Value} (h : VRs fm φ Z w cs vs) : VR fm φ Z w (.agg cs) (.agg vs.toArray) :=
  .agg _ _ (by simpa using h.len) fun i h1 h2 => by simpa using h.at_ i h1 (by simpa using h2)

theorem sim_load (h : SR cx nt ψ Z s a w) {agg : Bool} {n : Nat} {x : AOpd} (hok : okOp cx o (.load agg n x) = true) (hs : (AOp.load agg n x).sem o.dst s.T s.L s.H = some (tv, L', H')) : OpSim cx ψ Z s a w o tv L' H' := by
  obtain ⟨dst, op, type, pos, after, guard⟩ := o
  simp only [okOp] at hok
  split at hok
  · rename_i t y
    simp only [Bool.and_eq_true] at hok
    obtain ⟨h1, h2⟩ := hok
    simp only [AOp.sem] at hs
    split at hs
    · rename_i cs hc
      obtain ⟨b, off, vs, hp, hcr⟩ := cellsAt_real h (h.opd h1) hc
      obtain ⟨d, hu, hsz, _, _⟩ := okSize_info h2
      cases agg with
      | true =>
        simp only [asV, if_true, takeN] at hs
        split at hs
        · rename_i hle
          have hle := Nat.le_of_ble_eq_true hle
          simp only [ret1, Option.map_some, Option.some.injEq, Prod.mk.injEq] at hs; obtain ⟨rfl, rfl, rfl⟩ := hs
          have ht := hcr.take n
          refine opSim_pure h (val := .agg (vs.take n).toArray) ?_ (vr_agg ht.rel)
          have hr := ht.run (P := cx.P) (n := n) (by simp; omega)
          simp [execOp, hp, Instr.loadAt, Instr.sureAddr, loadVar, run_isAgg h2, run_sizeOf hsz, hr]
        · simp [ret1] at hs
      | false =>
        simp only [asV, Bool.false_eq_true, if_false] at hs
        cases cs with
        | nil => simp [ret1] at hs
        | cons c cs =>
          simp only [ret1, List.head?_cons, Option.map_some, Option.some.injEq, Prod.mk.injEq] at hs; obtain ⟨rfl, rfl, rfl⟩ := hs
          obtain ⟨hr, hat⟩ := hcr
          cases hr with
          | @cons _ v _ vs hv hr =>
            have hcell : w.cell? ⟨b, off, none⟩ = some v := by simpa using hat 0 v (by simp)
            exact opSim_pure h (val := v) (by simp [execOp, hp, Instr.loadAt, Instr.sureAddr, loadVar, run_isAgg h2, hcell]) hv
    · simp at hs
  · simp at hok

end
end Go.Am
