/- Operations that change nothing: fields, places, slices, lengths, closures, structs. -/
import Derived.Test.YtjjcongjjikifaaAmC2
set_option linter.unusedVariables false
set_option linter.unusedSimpArgs false
namespace Go.Am

theorem VRs.getElem? {fm : Fm} {φ : Ph} {Z : Ze} {w : World} {as : List AV} {vs : List Value} (h : VRs fm φ Z w as vs) (i : Nat) {a : AV} (ha : as[i]? = some a) : ∃ v, vs[i]? = some v ∧ VR fm φ Z w a v := by
  obtain ⟨hi, rfl⟩ := List.getElem?_eq_some_iff.1 ha
  have hl := h.len
  exact ⟨vs[i]'(by omega), List.getElem?_eq_getElem (by omega), h.at_ i hi (by omega)⟩

section
variable {cx : Cx} {nt : Nat} {ψ : Ps} {Z : Ze} {s : St} {a : Act} {w : World} {o : Oper} {tv : TV} {L' : Boxes} {H' : Heap}

theorem run_part {P : Program} {t : TypeId} {agg : Bool} {n : Nat} (hs : okSize P t agg n = true) {fm : Fm} {φ : Ph} {Z : Ze} {w : World} {cs : List AV} {xs : Array Value} (hx : VRs fm φ Z w cs xs.toList) (off : Nat) {r : AV} (hr : asV agg n (cs.drop off) = some r) :
    ∃ val, (part t xs off).run P w = .ok val w ∧ VR fm φ Z w r val := by
  obtain ⟨d, hu, hsz, _, _⟩ := okSize_info hs
  cases agg with
  | true =>
    simp only [asV, if_true, takeN] at hr
    split at hr
    · rename_i hle
      have hle := Nat.le_of_ble_eq_true hle
      simp at hr; subst hr
      refine ⟨.agg (xs.extract off (off + n)), by simp [part, run_isAgg hs, run_sizeOf hsz], ?_⟩
      have := vr_agg ((hx.drop off).take n)
      have e : ((xs.toList.drop off).take n).toArray = xs.extract off (off + n) := by
        apply Array.ext'
        simp [List.take_drop, Nat.add_comm, List.extract_eq_take_drop]
      rw [← e]; exact this
    · simp at hr
  | false =>
    simp only [asV, Bool.false_eq_true, if_false] at hr
    rw [List.head?_drop] at hr
    obtain ⟨v, hv, hrel⟩ := hx.getElem? off hr
    have hv' : xs[off]? = some v := by simpa using hv
    exact ⟨v, by simp [part, run_isAgg hs, hv'], hrel⟩

theorem sim_field (h : SR cx nt ψ Z s a w) {agg : Bool} {off n : Nat} {x : AOpd} (hok : okOp cx o (.field agg off n x) = true) (hs : (AOp.field agg off n x).sem o.dst s.T s.L s.H = some (tv, L', H')) : OpSim cx ψ Z s a w o tv L' H' := by
  obtain ⟨dst, op', type, pos, after, guard⟩ := o
  simp only [okOp] at hok
  split at hok
  · rename_i t y i
    simp only [Bool.and_eq_true] at hok
    obtain ⟨h1, h2⟩ := hok
    split at h2
    · rename_i fs hu
      split at h2
      · rename_i f hf
        simp only [Bool.and_eq_true] at h2
        have e := Nat.eq_of_beq_eq_true h2.1; subst e
        simp only [AOp.sem] at hs
        split at hs
        · rename_i cs hx
          obtain ⟨xs, hxs, hrel⟩ := agg_inv (h.opdv h1 hx)
          cases hr : asV agg n (cs.drop f.offset) with
          | none => rw [hr] at hs; simp [ret1] at hs
          | some r =>
            rw [hr] at hs
            simp only [ret1, Option.map_some, Option.some.injEq, Prod.mk.injEq] at hs; obtain ⟨rfl, rfl, rfl⟩ := hs
            obtain ⟨val, hrun, hv⟩ := run_part h2.2 hrel f.offset hr
            exact opSim_pure h (val := val) (by simp [execOp, hxs, Instr.field, run_underlying hu, hf, asAgg, hrun]) hv
        · simp at hs
      · simp at h2
    · simp at h2
  · simp at hok

theorem toIdx_inv {fm : Fm} {φ : Ps} {H : Heap} {w : World} {t : TV} {v : Value} (h : TVR fm φ Z H w t v) {i : Int} (hi : toIdx t = some i) : ∃ k, v = .int k i := by
  unfold toIdx at hi
  split at hi
  · simp at hi; subst hi; exact ⟨_, int_inv h⟩
  · simp at hi

theorem pl_cells {fm : Fm} {φ : Ph} {Z : Ze} {w : World} {cs : List AV} {n : Nat} {tk : Tk} {b off cap : Nat} (h : VR fm φ Z w (.pl cs n tk) (.slice (some ⟨b, off, none⟩) n cap)) : VR fm φ Z w (.fp cs) (.pointer (some ⟨b, off, none⟩)) := by
  cases h with
  | pl _ _ _ _ _ _ vs hl hz hc hr ht => exact .fp _ _ _ vs hz hc hr

theorem sim_iaddr (h : SR cx nt ψ Z s a w) {arr : Option Nat} {esz : Nat} {x i : AOpd} (hok : okOp cx o (.iaddr arr esz x i) = true) (hs : (AOp.iaddr arr esz x i).sem o.dst s.T s.L s.H = some (tv, L', H')) : OpSim cx ψ Z s a w o tv L' H' := by
  obtain ⟨dst, op', type, pos, after, guard⟩ := o
  simp only [okOp] at hok
  split at hok
  · rename_i t y j
    simp only [Bool.and_eq_true] at hok
    obtain ⟨⟨h1, h2⟩, h3⟩ := hok
    simp only [AOp.sem] at hs
    split at hs
    · simp at hs
    · rename_i iv hiv
      obtain ⟨k, hk⟩ := toIdx_inv (h.opd h2) hiv
      split at hs
      · rename_i n
        split at h3
        · rename_i hh; simp at hh
        · rename_i n' e n2 hu heq
          simp at heq; subst heq
          simp only [Bool.and_eq_true, decide_eq_true_eq] at h3
          have e1 := Nat.eq_of_beq_eq_true h3.1; subst e1
          have hsz := h3.2
          have hv := h.opd h1
          have run : ∀ b e0, a.eval y = .pointer (some ⟨b, e0, none⟩) → 0 ≤ iv ∧ iv < (n' : Int) → (execOp a.eval ⟨dst, .indexAddr t y j, type, pos, after, guard⟩).run cx.P w = .ok (.value (.pointer (some ⟨b, e0 + iv.toNat * esz, none⟩))) w := fun b e0 he hw => by
            simp [execOp, he, hk, Instr.indexAt, asIntOf, run_underlying hu, Instr.sureAddr, hw, run_sizeOf hsz, add_at]
          have wi : ∀ {q}, within iv n' = some q → (0 ≤ iv ∧ iv < (n' : Int)) ∧ q = iv.toNat := fun {q} hq => by
            unfold within at hq
            split at hq
            · simp at hq; exact ⟨by assumption, hq.symm⟩
            · simp at hq
          split at hs
          · rename_i q k2 g off hq hx
            obtain ⟨hw, rfl⟩ := wi hq
            simp only [Option.some.injEq, Prod.mk.injEq] at hs; obtain ⟨rfl, rfl, rfl⟩ := hs
            rw [hx] at hv; obtain ⟨b, e', p1, p2⟩ := hv
            exact opSim_pure h (run _ _ p2 hw) ⟨b, e', p1, by rw [Nat.add_assoc]⟩
          · rename_i q id off hq hx
            obtain ⟨hw, rfl⟩ := wi hq
            simp only [Option.some.injEq, Prod.mk.injEq] at hs; obtain ⟨rfl, rfl, rfl⟩ := hs
            rw [hx] at hv; obtain ⟨b, e', p1, p2⟩ := ptr_form hv
            refine opSim_pure h (run _ _ p2 hw) ?_
            show VR _ _ _ _ _ _
            rw [Nat.add_assoc]; exact .ptr _ _ _ _ p1
          · rename_i q cs hq hx
            obtain ⟨hw, rfl⟩ := wi hq
            split at hs
            · rename_i hle
              simp only [Option.some.injEq, Prod.mk.injEq] at hs; obtain ⟨rfl, rfl, rfl⟩ := hs
              rw [hx] at hv; obtain ⟨b, e', p2⟩ := fp_form hv
              refine opSim_pure h (run _ _ p2 hw) ?_
              rw [p2] at hv
              exact fp_drop _ (Nat.le_of_ble_eq_true hle) hv
            · simp at hs
          · simp at hs
        · simp at h3
      · split at h3
        · rename_i e hu heq
          have hsz := of_decide_eq_true h3
          have wi : ∀ {q n}, within iv n = some q → (0 ≤ iv ∧ iv < (n : Int)) ∧ q = iv.toNat := fun {q n} hq => by
            unfold within at hq
            split at hq
            · simp at hq; exact ⟨by assumption, hq.symm⟩
            · simp at hq
          have run : ∀ b e0 n cap, a.eval y = .slice (some ⟨b, e0, none⟩) n cap → 0 ≤ iv ∧ iv < (n : Int) → (execOp a.eval ⟨dst, .indexAddr t y j, type, pos, after, guard⟩).run cx.P w = .ok (.value (.pointer (some ⟨b, e0 + iv.toNat * esz, none⟩))) w := fun b e0 n cap he hw => by
            simp [execOp, he, hk, Instr.indexAt, asIntOf, run_underlying hu, hw, run_sizeOf hsz, add_at]
          split at hs
          · rename_i cs ln tk hx
            split at hs
            · rename_i q hq
              obtain ⟨hw, rfl⟩ := wi hq
              split at hs
              · rename_i hle
                have hle := Nat.le_of_ble_eq_true hle
                simp only [Option.some.injEq, Prod.mk.injEq] at hs; obtain ⟨rfl, rfl, rfl⟩ := hs
                have hv := h.opdv h1 hx
                generalize hye : a.eval y = vy at hv
                cases hv with
                | plnil => simp at hw; omega
                | pl _ _ cap _ b off vs hl hz hc hr ht =>
                  refine opSim_pure h (run _ _ _ _ hye hw) ?_
                  have hfp : VR cx.fm (ph ψ) Z w (.fp cs) (.pointer (some ⟨b, off, none⟩)) := .fp _ _ _ vs hz hc hr
                  have : iv.toNat * esz ≤ cs.length := by
                    have : (iv.toNat + 1) * esz = iv.toNat * esz + esz := by rw [Nat.add_mul, Nat.one_mul]
                    omega
                  exact fp_take _ (fp_drop _ this hfp)
              · simp at hs
            · simp at hs
          · rename_i id off ln esz' hx
            split at hs
            · rename_i q hq
              obtain ⟨hw, rfl⟩ := wi hq
              split at hs
              · rename_i hbe
                have := Nat.eq_of_beq_eq_true hbe; subst this
                simp only [Option.some.injEq, Prod.mk.injEq] at hs; obtain ⟨rfl, rfl, rfl⟩ := hs
                obtain ⟨b, e0, cap, sz, o0, p1, p2, _, _, hlc, ho⟩ := sl_inv (h.opdv h1 hx)
                have ho : o0 = e0 + off := by rcases ho with h | h <;> omega
                subst ho
                refine opSim_pure h (run _ _ _ _ p1 hw) ?_
                show VR _ _ _ _ _ _
                rw [Nat.add_assoc]; exact .ptr _ _ _ _ p2
              · simp at hs
            · simp at hs
          · simp at hs
        · rename_i n' e n2 hu heq; simp at heq
        · simp at h3
  · simp at hok

/-! slices -/
theorem bound_run {x : Option Operand} {y : Option AOpd} (h : SR cx nt ψ Z s a w) (hk : okOO cx x y = true) {d n r : Nat} (hb : bound (evo s.T y) d n = some r) :
    (x = none ∧ r = d) ∨ ∃ z k i, x = some z ∧ a.eval z = .int k i ∧ 0 ≤ i ∧ i ≤ n ∧ r = i.toNat := by
  unfold okOO at hk
  split at hk
  · simp [bound, evo] at hb; exact .inl ⟨rfl, hb.symm⟩
  · rename_i z y'
    simp only [bound, evo, Option.map_some] at hb
    split at hb
    · rename_i i hi
      obtain ⟨k, hk'⟩ := toIdx_inv (h.opd hk) hi
      split at hb
      · simp at hb; exact .inr ⟨z, k, i, rfl, hk', by omega, by omega, hb.symm⟩
      · simp at hb
    · simp at hb
  · simp at hk

theorem bounds_run {P : Program} {ρ : Operand → Value} {w : World} {isS : Bool} {ln cap hi lo : Nat} {l h : Option Operand} (hh : (h = none ∧ hi = ln) ∨ ∃ z k i, h = some z ∧ ρ z = .int k i ∧ 0 ≤ i ∧ i ≤ (cap : Int) ∧ hi = i.toNat)
    (hl : (l = none ∧ lo = 0) ∨ ∃ z k i, l = some z ∧ ρ z = .int k i ∧ 0 ≤ i ∧ i ≤ (hi : Int) ∧ lo = i.toNat) :
    (Instr.sliceBounds isS ln cap (l.map ρ) (h.map ρ) none).run P w = .ok (lo, hi, cap) w := by
  rcases hh with ⟨rfl, rfl⟩ | ⟨z, k, i, rfl, h1, h2, h3, rfl⟩ <;> rcases hl with ⟨rfl, rfl⟩ | ⟨z', k', i', rfl, g1, g2, g3, rfl⟩
  · simp [Instr.sliceBounds]
  · simp [Instr.sliceBounds, Instr.sliceBound, g1, asIntOf, g2, g3]
  · simp [Instr.sliceBounds, Instr.sliceBound, h1, asIntOf, h2, h3]
  · have e1 : (i.toNat : Int) = i := Int.toNat_of_nonneg h2
    rw [e1] at g3
    simp [Instr.sliceBounds, Instr.sliceBound, h1, asIntOf, h2, h3, g1, g2, g3]
    intro hlt; omega

theorem sim_sliceS (h : SR cx nt ψ Z s a w) {x : AOpd} {lo hi : Option AOpd} (hok : okOp cx o (.sliceS x lo hi) = true) (hs : (AOp.sliceS x lo hi).sem o.dst s.T s.L s.H = some (tv, L', H')) : OpSim cx ψ Z s a w o tv L' H' := by
  obtain ⟨dst, op', type, pos, after, guard⟩ := o
  simp only [okOp] at hok
  split at hok
  · rename_i t y l hh
    simp only [Bool.and_eq_true] at hok
    obtain ⟨⟨⟨h1, h2⟩, h3⟩, h4⟩ := hok
    split at h4
    · rename_i hu
      simp only [AOp.sem] at hs
      split at hs
      · rename_i str hx
        have hc := str_inv (h.opdv h1 hx)
        split at hs
        · rename_i b hb
          split at hs
          · rename_i c hc2
            simp only [Option.some.injEq, Prod.mk.injEq] at hs; obtain ⟨rfl, rfl, rfl⟩ := hs
            have r1 := bound_run h h3 hb
            have r2 := bound_run h h2 hc2
            refine opSim_pure h (val := .string ⟨⟨(str.take b).drop c⟩⟩) ?_ (.str _)
            have hsz : (⟨⟨str⟩⟩ : ByteArray).size = str.length := rfl
            have hbr := bounds_run (P := cx.P) (ρ := a.eval) (w := w) (isS := false) (ln := (⟨⟨str⟩⟩ : ByteArray).size) (cap := (⟨⟨str⟩⟩ : ByteArray).size) (by rw [hsz]; exact r1) r2
            have hex : (⟨⟨str⟩⟩ : ByteArray).extract c b = ⟨⟨(str.take b).drop c⟩⟩ := by
              apply ByteArray.ext
              simp [ByteArray.data_extract, List.extract_eq_take_drop, List.drop_take]
            simp only [execOp, hc, Option.map_none, Instr.sliceAt, Sem.run_bind, run_underlying hu, Result.andThen_ok, Instr.slice, Option.isSome_none, Bool.false_eq_true, if_false, Sem.run_pure, hbr, hex]
          · simp at hs
        · simp at hs
      · simp at hs
    · simp at h4
  · simp at hok

theorem take_drop_rel {fm : Fm} {φ : Ph} {cs : List AV} {b off : Nat} (n m : Nat) (hm : m ≤ cs.length) (h : VR fm φ Z w (.fp cs) (.pointer (some ⟨b, off, none⟩))) : VR fm φ Z w (.fp ((cs.take n).drop m)) (.pointer (some ⟨b, off + m, none⟩)) := by
  rw [List.drop_take]
  exact fp_take _ (fp_drop _ hm h)
theorem fp_nil {fm : Fm} {φ : Ph} {b off : Nat} : VR fm φ Z w (.fp []) (.pointer (some ⟨b, off, none⟩)) := .fp _ _ _ (fun _ => undef) (.inr rfl) (fun i hi => by simp at hi) (fun i hi => by simp at hi)
theorem pl_of_fp {fm : Fm} {φ : Ph} {cs : List AV} {n cap : Nat} {tk : Tk} {b off : Nat} (hl : n ≤ cap) (h : VR fm φ Z w (.fp cs) (.pointer (some ⟨b, off, none⟩))) (ht : TkR φ w tk cs.length n cap b off) : VR fm φ Z w (.pl cs n tk) (.slice (some ⟨b, off, none⟩) n cap) := by
  cases h with
  | fp _ _ _ vs hz hc hr => exact .pl _ _ _ _ _ _ vs hl hz hc hr ht

theorem sim_sliceL (h : SR cx nt ψ Z s a w) {esz : Nat} {x : AOpd} {lo hi mx : Option AOpd} (hok : okOp cx o (.sliceL esz x lo hi mx) = true) (hs : (AOp.sliceL esz x lo hi mx).sem o.dst s.T s.L s.H = some (tv, L', H')) : OpSim cx ψ Z s a w o tv L' H' := by
  obtain ⟨dst, op', type, pos, after, guard⟩ := o
  cases mx with
  | some m => simp [okOp] at hok
  | none =>
  simp only [okOp] at hok
  split at hok
  · rename_i t y l hh
    simp only [Bool.and_eq_true] at hok
    obtain ⟨⟨⟨h1, h2⟩, h3⟩, h4⟩ := hok
    split at h4
    · rename_i e hu
      have hsz := of_decide_eq_true h4
      have run : ∀ (ad : Option Addr) (ln cap b c : Nat), a.eval y = .slice ad ln cap → ln ≤ cap → ((hh = none ∧ b = ln) ∨ ∃ z k i, hh = some z ∧ a.eval z = .int k i ∧ 0 ≤ i ∧ i ≤ (ln : Int) ∧ b = i.toNat) → ((l = none ∧ c = 0) ∨ ∃ z k i, l = some z ∧ a.eval z = .int k i ∧ 0 ≤ i ∧ i ≤ (b : Int) ∧ c = i.toNat) →
          (execOp a.eval ⟨dst, .slice t y l hh none, type, pos, after, guard⟩).run cx.P w = .ok (.value (.slice (if cap = c then ad else ad.map (·.add (c * esz))) (b - c) (cap - c))) w := fun ad ln cap b c he hlc r1 r2 => by
        have hbr := bounds_run (P := cx.P) (ρ := a.eval) (w := w) (isS := true) (ln := ln) (cap := cap) (hi := b) (lo := c) (l := l) (h := hh) (r1.imp id fun ⟨z, k, i, q1, q2, q3, q4, q5⟩ => ⟨z, k, i, q1, q2, q3, by omega, q5⟩) r2
        simp only [execOp, he, Option.map_none, Instr.sliceAt, Sem.run_bind, run_underlying hu, Result.andThen_ok, Instr.slice, Sem.run_pure, hbr, run_sizeOf hsz]
      have lec : ∀ {b c : Nat}, ((l = none ∧ c = 0) ∨ ∃ z k i, l = some z ∧ a.eval z = .int k i ∧ 0 ≤ i ∧ i ≤ (b : Int) ∧ c = i.toNat) → c ≤ b := fun {b c} r => by rcases r with ⟨_, rfl⟩ | ⟨z, k, i, _, _, _, _, rfl⟩ <;> omega
      have leb : ∀ {b ln : Nat}, ((hh = none ∧ b = ln) ∨ ∃ z k i, hh = some z ∧ a.eval z = .int k i ∧ 0 ≤ i ∧ i ≤ (ln : Int) ∧ b = i.toNat) → b ≤ ln := fun {b c} r => by rcases r with ⟨_, rfl⟩ | ⟨z, k, i, _, _, _, _, rfl⟩ <;> omega
      simp only [AOp.sem] at hs
      split at hs
      · rename_i cs ln tk hx
        have hv := h.opdv h1 hx
        split at hs
        · rename_i _ _ b _ hb
          split at hs
          · rename_i c hc
            have r1 := bound_run h h3 hb
            have r2 := bound_run h h2 hc
            have hcb := lec r2
            have hbl := leb r1
            split at hs
            · rename_i hlen
              have hlen := Nat.eq_of_beq_eq_true hlen
              have hcl : c * esz ≤ cs.length := by rw [hlen]; exact Nat.mul_le_mul_right _ (by omega)
              generalize hye : a.eval y = vy at hv
              cases hv with
              | plnil =>
                have hc0 : c = 0 := by omega
                have hb0 : b = 0 := by omega
                subst hc0; subst hb0
                simp at hs; obtain ⟨rfl, rfl, rfl⟩ := hs
                exact opSim_pure h (by rw [run none 0 0 0 0 hye (by omega) r1 r2]; rfl) .plnil
              | pl _ _ cap _ bb off vs hl hz hcc hr ht =>
                have hfp : VR cx.fm (ph ψ) Z w (.fp cs) (.pointer (some ⟨bb, off, none⟩)) := .fp _ _ _ vs hz hcc hr
                have hrun := run (some ⟨bb, off, none⟩) ln cap b c hye hl r1 r2
                have hfit : ((cs.take (b * esz)).drop (c * esz)).length = (b - c) * esz := by
                  simp only [List.length_drop, List.length_take, hlen, Nat.sub_mul]
                  have : b * esz ≤ ln * esz := Nat.mul_le_mul_right _ hbl
                  omega
                have place : ∃ off', (if cap = c then (some ⟨bb, off, none⟩ : Option Addr) else (some (⟨bb, off, none⟩ : Addr)).map (·.add (c * esz))) = some ⟨bb, off', none⟩ ∧ (c = 0 → off' = off) ∧ VR cx.fm (ph ψ) Z w (.fp ((cs.take (b * esz)).drop (c * esz))) (.pointer (some ⟨bb, off', none⟩)) := by
                  by_cases hcc : cap = c
                  · refine ⟨off, by simp [hcc], fun _ => rfl, ?_⟩
                    have hn : (cs.take (b * esz)).drop (c * esz) = [] := List.eq_nil_of_length_eq_zero (by
                      rw [hfit]
                      have : b - c = 0 := by omega
                      rw [this]; simp)
                    rw [hn]; exact fp_nil
                  · exact ⟨off + c * esz, by simp [hcc, add_at], fun h0 => by simp [h0], take_drop_rel _ _ hcl hfp⟩
                obtain ⟨off', hp1, hp2, hp3⟩ := place
                rw [hp1] at hrun
                split at hs
                · rename_i hbe
                  have hbe := Nat.eq_of_beq_eq_true hbe
                  simp only [Option.some.injEq, Prod.mk.injEq] at hs; obtain ⟨rfl, rfl, rfl⟩ := hs
                  refine opSim_pure h hrun (pl_of_fp (by omega) hp3 ?_)
                  cases tk with
                  | nil => exact ht
                  | no => trivial
                  | exact => show cap - c = b - c; have : cap = ln := ht; omega
                  | live t0 e0 =>
                    simp only [sliceTk]
                    split
                    · rename_i hc0
                      have hc0 := Nat.eq_of_beq_eq_true hc0
                      have hoff := hp2 hc0
                      subst hc0; subst hoff
                      have : (cs.take (b * esz)).drop (0 * esz) = cs := by
                        rw [hbe, ← hlen]; simp
                      rw [this]
                      simpa [hbe] using ht
                    · trivial
                · split at hs
                  · simp at hs
                  · simp only [Option.some.injEq, Prod.mk.injEq] at hs; obtain ⟨rfl, rfl, rfl⟩ := hs
                    exact opSim_pure h hrun (pl_of_fp (by omega) hp3 trivial)
            · simp at hs
          · simp at hs
        · simp at hs
      · rename_i id off ln e' hx
        have hv := h.opdv h1 hx
        split at hs
        · rename_i _ _ b _ hb
          split at hs
          · rename_i c hc
            have r1 := bound_run h h3 hb
            have r2 := bound_run h h2 hc
            have hcb := lec r2
            have hbl := leb r1
            split at hs
            · rename_i hbe
              have := Nat.eq_of_beq_eq_true hbe; subst this
              simp only [Option.some.injEq, Prod.mk.injEq] at hs; obtain ⟨rfl, rfl, rfl⟩ := hs
              obtain ⟨bb, e0, cap, sz, o0, p1, p2, p3, p4, p5, p6⟩ := sl_inv hv
              have hrun := run _ _ _ _ _ p1 p5 r1 r2
              by_cases hcc : cap = c
              · rw [if_pos hcc] at hrun
                refine opSim_pure h hrun ?_
                have hcm : cap * e' = c * e' := by rw [hcc]
                exact .sl _ _ _ _ _ _ _ sz _ p2 p3 (by rw [Nat.sub_mul]; omega) (by omega) (.inr (by omega))
              · rw [if_neg hcc] at hrun
                simp only [Option.map_some, add_at] at hrun
                refine opSim_pure h hrun ?_
                have hcm : c * e' ≤ cap * e' := Nat.mul_le_mul_right _ (by omega)
                exact .sl _ _ _ _ _ _ _ sz _ p2 p3 (by rw [Nat.sub_mul]; omega) (by omega) (by rcases p6 with rfl | h0 <;> omega)
            · simp at hs
          · simp at hs
        · simp at hs
      · simp at hs
    · simp at h4
  · simp at hok

end
end Go.Am
