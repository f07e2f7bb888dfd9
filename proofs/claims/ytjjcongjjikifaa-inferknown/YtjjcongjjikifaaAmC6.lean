/- Operations that lay memory: slices that are written out or made, bytes, append. -/
import Derived.Test.YtjjcongjjikifaaAmC5
import Derived.IntWalk
set_option linter.unusedVariables false
set_option linter.unusedSimpArgs false
namespace Go.Am
section
variable {cx : Cx} {nt : Nat} {ψ : Ps} {Z : Ze} {s : St} {a : Act} {w : World} {o : Oper} {tv : TV} {L L' : Boxes} {H H' : Heap}

/-- A new frozen row. -/
theorem goes_addZ (m : MemR cx ψ Z L H w) {arr : Array Value} {el : TypeId} {fr : Nat × Nat} {n : Nat} (hn : n ≤ arr.size) :
    Goes cx ψ Z L H w ψ (upz Z w.heap.size n) L H (addB w (.cells arr el fr)) := by
  obtain ⟨i1, e1, f1⟩ := inv_addZ m.inv (el := el) (fr := fr) hn
  refine ⟨⟨i1, m.freshH, m.freshL, m.gl.ext e1⟩, e1, fun _ _ h => h, f1, .inl ⟨rfl, fun i x p hx hp => ?_⟩, fun b hb _ => by unfold upz; rw [if_neg (by omega)]⟩
  obtain ⟨p', hp', hr'⟩ := m.inv.obj (.inl i) x hx
  rw [hp] at hp'; simp at hp'; subst hp'
  have : p.1 < w.heap.size := by
    cases x with
    | cells c => obtain ⟨_, arr, el, h2, _⟩ := hr'; exact lt_of_heap h2
    | map es => obtain ⟨_, arr, el, _, h2, _⟩ := hr'; exact lt_of_heap h2
    | tok => obtain ⟨_, arr, el, h2, _⟩ := hr'; exact lt_of_heap h2
    | iter _ _ _ => exact hr'.lt
  rw [addB_get, if_neg (by omega)]

/-- A frozen row's beginning, as a pointer to it. -/
theorem fp_new (m : MemR cx ψ Z L H w) {arr : Array Value} {el : TypeId} {fr : Nat × Nat} {cs : List AV} {vs : List Value} (hc : VRs cx.fm (ph ψ) Z w cs vs) (hv : ∀ (i : Nat) (v : Value), vs[i]? = some v → arr[i]? = some v) (hl : cs.length ≤ arr.size) :
    VR cx.fm (ph ψ) (upz Z w.heap.size cs.length) (addB w (.cells arr el fr)) (.fp cs) (.pointer (some ⟨w.heap.size, 0, none⟩)) := by
  obtain ⟨_, e1, _⟩ := inv_addZ m.inv (el := el) (fr := fr) hl
  have hlen := hc.len
  refine .fp _ _ _ (fun i => vs.getD i undef) (.inl (by simp [upz])) (fun i hi => ?_) (fun i hi => ?_)
  · have : vs[i]? = some (vs.getD i undef) := by simp [List.getD, List.getElem?_eq_getElem (show i < vs.length by omega)]
    rw [cellAt_eq, addB_get, if_pos rfl]
    simpa using hv i _ this
  · have := (hc.ext e1).at_ i hi (by omega)
    simpa [List.getD, List.getElem?_eq_getElem (show i < vs.length by omega)] using this

theorem sim_bslice (h : SR cx nt ψ Z s a w) {heap : Bool} {n : Nat} {z : List AV} {ps : List (Nat × Nat × AOpd)} (hok : okOp cx o (.bslice heap n z ps) = true) (hs : (AOp.bslice heap n z ps).sem o.dst s.T s.L s.H = some (tv, L', H')) : OpSim cx ψ Z s a w o tv L' H' := by
  obtain ⟨dst, op', type, pos, after, guard⟩ := o
  simp only [okOp] at hok
  split at hok
  · rename_i t n' qs
    split at hok
    · rename_i e hu
      split at hok
      · rename_i m zv hm hzv
        simp only [Bool.and_eq_true] at hok
        obtain ⟨⟨⟨⟨⟨h1, h2⟩, h3⟩, h4⟩, h5⟩, h6⟩ := hok
        have h1 := Nat.eq_of_beq_eq_true h1; subst h1
        have h2 := Nat.le_of_ble_eq_true h2
        have h5 := Nat.le_of_ble_eq_true h5
        have h6 := Nat.eq_of_beq_eq_true h6
        simp only [AOp.sem] at hs
        split at hs
        · rename_i cs hcs
          obtain ⟨cs', q1, q2⟩ := fill_run h _ _ _ _ _ _ h4 (okVals_vrs h3) hcs
          have hzr : (zeroValue e).run cx.P w = .ok zv w := by
            cases hi : cx.P.info? e with
            | none => rw [hi] at hzv; simp at hzv
            | some i => rw [hi] at hzv; simp only [Option.bind_some] at hzv; simp [zeroValue, typeInfo, hi, hzv]
          have hparts : (qs.map fun (p : Nat × Operand) => (p.1, a.eval p.2)).toList = qs.toList.map fun p => (p.1, a.eval p.2) := by simp
          have hlen := q2.len
          have hrun : (execOp a.eval ⟨dst, .buildSlice t n qs, type, pos, after, guard⟩).run cx.P w = .ok (.value (.slice (some ⟨w.heap.size, 0, none⟩) n n)) (addB w (.cells cs'.toArray e)) := by
            simp only [execOp, Instr.buildSlice, Sem.run_bind, run_underlying hu, Result.andThen_ok, run_sizeOf hm]
            rw [if_neg (by omega)]
            by_cases h0 : n * m = 0
            · rw [if_pos h0]
              have hz0 : ((Array.range (n * m)).map (fun x => (#[] : Array Value)[x % (#[] : Array Value).size]!)) = (((Array.range (n * m)).map (fun x => zv.cells[x % zv.cells.size]!)).toList).toArray := by
                rw [h0]; simp
              simp only [Sem.run_bind, Sem.run_pure, Result.andThen_ok]
              rw [hz0, hparts, q1]
              simp [newRow, addB]
            · rw [if_neg h0]
              simp only [Sem.run_bind, hzr, Result.andThen_ok, Sem.run_pure]
              have hz0 : ((Array.range (n * m)).map (fun x => zv.cells[x % zv.cells.size]!)) = (((Array.range (n * m)).map (fun x => zv.cells[x % zv.cells.size]!)).toList).toArray := Array.toArray_toList.symm
              rw [hz0, hparts, q1]
              simp [newRow, addB]
          -- how many cells
          have hcl : cs.length = n * m := by
            have key : ∀ (ps : List (Nat × Nat × AOpd)) (z r : List AV), fillA s.T z ps = some r → r.length = z.length := by
              intro ps
              induction ps with
              | nil => intro z r hr; simp [fillA] at hr; rw [hr]
              | cons p ps ih =>
                intro z r hr
                obtain ⟨off, k, y⟩ := p
                unfold fillA at hr
                split at hr
                · split at hr
                  · rename_i hb
                    simp only [Bool.and_eq_true] at hb
                    have e1 := Nat.eq_of_beq_eq_true hb.1
                    have e2 := Nat.le_of_ble_eq_true hb.2
                    rw [ih _ _ hr]; simp [splice]; omega
                  · simp at hr
                · simp at hr
            have hz := (okVals_vrs (fm := cx.fm) (φ := ph ψ) (Z := Z) (w := w) h3).len
            rw [key _ _ _ hcs, hz]; simp
          have hzn : Z w.heap.size = 0 := z_new h.mem
          split at hs
          · split at hs
            · simp at hs
            · rename_i hn0
              have hn0 : 0 < n := by
                rcases Nat.eq_zero_or_pos n with h0 | h0
                · subst h0; simp at hn0
                · exact h0
              simp only [Option.some.injEq, Prod.mk.injEq] at hs; obtain ⟨rfl, rfl, rfl⟩ := hs
              have hr := objR_new h.mem (rest := #[]) (el := e) (h.mem.freshH _ (Nat.le_refl _)) q2
              have hvc : cs'.toArray ++ #[] = cs'.toArray := by simp
              rw [hvc] at hr
              refine ⟨_, _, _, Z, .inl hrun, goes_addH h.mem hr, ?_⟩
              have hdiv : cs.length / n = m := by rw [hcl]; exact Nat.mul_div_cancel_left m hn0
              rw [hdiv]
              exact .sl _ _ _ _ _ 0 n cs'.length 0 (by simp [ph, ups]) (by simp [rowSize, addB_get]) (by omega) (Nat.le_refl _) (.inl (by simp))
          · simp only [Option.some.injEq, Prod.mk.injEq] at hs; obtain ⟨rfl, rfl, rfl⟩ := hs
            refine ⟨_, _, ψ, _, .inl hrun, goes_addZ h.mem (n := cs.length) (by simp; omega), ?_⟩
            exact pl_of_fp (Nat.le_refl _) (fp_new h.mem q2 (fun i v hv => by simpa using hv) (by simp; omega)) rfl
        · simp at hs
      · simp at hok
    · simp at hok
  · simp at hok

theorem repeatC_rel {fm : Fm} {φ : Ph} {z : List AV} {v : Array Value} (hz : VRs fm φ Z w z v.toList) (n : Nat) (h1 : 1 ≤ v.size) : VRs fm φ Z w (repeatC z n) ((Array.range (n * v.size)).map (v[· % v.size]!)).toList := by
  have key : ((Array.range (n * v.size)).map (v[· % v.size]!)).toList = (List.replicate n v.toList).flatten := by
    induction n with
    | zero => simp
    | succ n ih =>
      have e1 : (n + 1) * v.size = n * v.size + v.size := by rw [Nat.add_mul, Nat.one_mul]
      simp only [Array.toList_map, Array.toList_range] at ih ⊢
      rw [e1, List.range_add, List.map_append, ih, List.replicate_succ', List.flatten_append]
      congr 1
      simp only [List.map_map, List.flatten_cons, List.flatten_nil, List.append_nil]
      apply List.ext_getElem
      · simp
      · intro i q1 q2
        have hi : i < v.size := by simpa using q1
        have hm : (n * v.size + i) % v.size = i := by rw [Nat.mul_comm, Nat.mul_add_mod]; exact Nat.mod_eq_of_lt hi
        simp [hm, hi]
  rw [key]
  induction n with
  | zero => exact .nil
  | succ n ih =>
    rw [List.replicate_succ, List.flatten_cons]
    exact hz.append (ih (by
      simp only [Array.toList_map, Array.toList_range]
      clear key ih
      induction n with
      | zero => simp
      | succ n ih =>
        have e1 : (n + 1) * v.size = n * v.size + v.size := by rw [Nat.add_mul, Nat.one_mul]
        rw [e1, List.range_add, List.map_append, ih, List.replicate_succ', List.flatten_append]
        congr 1
        simp only [List.map_map, List.flatten_cons, List.flatten_nil, List.append_nil]
        apply List.ext_getElem
        · simp
        · intro i q1 q2
          have hi : i < v.size := by simpa using q1
          have hm : (n * v.size + i) % v.size = i := by rw [Nat.mul_comm, Nat.mul_add_mod]; exact Nat.mod_eq_of_lt hi
          simp [hm, hi]))

theorem wrap_small {n : Int} (h : 0 ≤ n ∧ n ≤ 9223372036854775807) : IntKind.i64.wrap n = n := IntWalk.i64_in n (by omega)

theorem sim_clr (h : SR cx nt ψ Z s a w) {esz : Nat} {z : List AV} {x : AOpd} (hok : okOp cx o (.clr esz z x) = true) (hs : (AOp.clr esz z x).sem o.dst s.T s.L s.H = some (tv, L', H')) : OpSim cx ψ Z s a w o tv L' H' := by
  obtain ⟨dst, op', type, pos, after, guard⟩ := o
  simp only [okOp] at hok
  split at hok
  · rename_i c
    split at hok
    · rename_i hcal
      split at hok
      · rename_i y t hargs htys
        simp only [Bool.and_eq_true] at hok
        obtain ⟨h1, h2⟩ := hok
        split at h2
        · rename_i e hu
          simp only [Bool.and_eq_true] at h2
          obtain ⟨k1, k2⟩ := h2
          have k2 := Nat.le_of_ble_eq_true k2
          obtain ⟨zv, hz1, hz2⟩ := okZero_run k1 (fm := cx.fm) (φ := ph ψ) (Z := Z) (w := w)
          have hzs : 1 ≤ zv.cells.size := by have := hz2.len; simp at this; omega
          have ha : c.args = #[y] := by apply Array.ext'; simpa using hargs
          have ht : c.argTypes = #[t] := by apply Array.ext'; simpa using htys
          have run : ∀ {w' : World}, (Builtin.clear_ #[t] type #[a.eval y]).run cx.P w = .ok (.tuple #[]) w' → (execOp a.eval ⟨dst, .call c, type, pos, after, guard⟩).run cx.P w = .ok (.value undef) w' := fun {w'} hr => by
            simp [execOp, resolve, hcal, ha, ht, invoke, builtin, hr, undef]
          simp only [AOp.sem] at hs
          split at hs
          · rename_i id off ln e' hx
            split at hs
            · rename_i cs hg
              split at hs
              · rename_i hb
                simp only [Bool.and_eq_true] at hb
                obtain ⟨⟨⟨b1, b2⟩, b3⟩, b4⟩ := hb
                have b2 := Nat.le_of_ble_eq_true b2
                have b3 := Nat.le_of_ble_eq_true b3
                simp only [Option.some.injEq, Prod.mk.injEq] at hs; obtain ⟨rfl, rfl, rfl⟩ := hs
                obtain ⟨b, e0, cap, sz, o0, hv, p1, p2, p3, p4, p5⟩ := sl_inv (h.opdv h1 hx)
                have p5 : o0 = e0 + off := p5.resolve_right (by omega)
                subst p5
                have p1' : ψ (.inl id) = some (b, e0) := p1
                have hrel := repeatC_rel hz2 ln hzs
                obtain ⟨w', r1, r2, r3, r4, r5⟩ := write_cells h.mem (o := .inl id) (c := cs) (off := off) (by simp [look, hg]) p1' hrel b4 b3
                rw [← look_put] at r2 r4
                refine ⟨undef, w', ψ, Z, .inl (run ?_), ⟨⟨r2, h.mem.freshH, h.mem.freshL, h.mem.gl.ext r3⟩, r3, fun _ _ hh => hh, r4, .inr (by simp [Heap.put]), fun _ _ _ => rfl⟩, .tup _ _ rfl (fun i q => by simp at q)⟩
                have hl0 : ln ≠ 0 := by omega
                unfold Builtin.clear_
                simp only [hv, Sem.run_bind, run_underlying hu, Result.andThen_ok]
                obtain ⟨m, rfl⟩ : ∃ m, ln = m + 1 := ⟨ln - 1, by omega⟩
                simp at r1
                simp [run_underlying hu, hz1, Builtin.zeroCells, r1]
              · simp at hs
            · simp at hs
          · rename_i cs tk hx
            simp only [Option.some.injEq, Prod.mk.injEq] at hs; obtain ⟨rfl, rfl, rfl⟩ := hs
            obtain ⟨ad, cap, hv, _⟩ := pl_inv (h.opdv h1 hx)
            refine ⟨undef, w, ψ, Z, .inl (run ?_), Goes.refl h.mem, .tup _ _ rfl (fun i q => by simp at q)⟩
            cases ad <;> simp [Builtin.clear_, hv, run_underlying hu]
          · simp at hs
        · simp at h2
      · simp at hok
    · simp at hok
  · simp at hok

theorem sim_mkslice (h : SR cx nt ψ Z s a w) {esz bytes : Nat} {z : List AV} {x y : AOpd} (hok : okOp cx o (.mkslice esz bytes z x y) = true) (hs : (AOp.mkslice esz bytes z x y).sem o.dst s.T s.L s.H = some (tv, L', H')) : OpSim cx ψ Z s a w o tv L' H' := by
  obtain ⟨dst, op', type, pos, after, guard⟩ := o
  simp only [okOp] at hok
  split at hok
  · rename_i t u v
    simp only [Bool.and_eq_true] at hok
    obtain ⟨⟨h1, h2⟩, h3⟩ := hok
    split at h3
    · rename_i e hu
      simp only [Bool.and_eq_true, decide_eq_true_eq] at h3
      obtain ⟨⟨⟨⟨k1, k2⟩, k3⟩, k4⟩, k5⟩ := h3
      have k4 := Nat.eq_of_beq_eq_true k4
      have k5 := Nat.le_of_ble_eq_true k5
      obtain ⟨zv, hz1, hz2⟩ := okZero_run k3 (fm := cx.fm) (φ := ph ψ) (Z := Z) (w := w)
      have hzsz : zv.cells.size = esz := by have := hz2.len; simp at this; omega
      simp only [AOp.sem] at hs
      split at hs
      · rename_i n m hn hm
        obtain ⟨kn, en⟩ := toIdx_inv (h.opd h1) hn
        obtain ⟨km, em⟩ := toIdx_inv (h.opd h2) hm
        split at hs
        · rename_i hcond
          obtain ⟨c1, c2, c3, c4⟩ := hcond
          have c3 := Nat.le_of_ble_eq_true c3
          have c4 := Nat.le_of_ble_eq_true c4
          unfold most at c3 c4
          simp only [Option.some.injEq, Prod.mk.injEq] at hs; obtain ⟨rfl, rfl, rfl⟩ := hs
          have wn : IntKind.i64.wrap n = n := wrap_small (by omega)
          have wm : IntKind.i64.wrap m = m := wrap_small (by omega)
          cases hi : cx.P.info? e with
          | none => rw [hi] at k1; simp at k1
          | some inf =>
            rw [hi] at k1 k2
            simp at k1 k2
            have hb : (inf.bytes : Int) * m ≤ 1099511627776 := by
              have e1 : (inf.bytes : Int) * m = ((m.toNat * bytes : Nat) : Int) := by
                rw [k2, Int.natCast_mul, Int.toNat_of_nonneg (by omega), Int.mul_comm]
              rw [e1]; exact Int.ofNat_le.2 c3
            have hrel := repeatC_rel hz2 m.toNat (by omega)
            rw [hzsz] at hrel
            have hrun : (execOp a.eval ⟨dst, .makeSlice t u v, type, pos, after, guard⟩).run cx.P w = .ok (.value (.slice (some ⟨w.heap.size, 0, none⟩) n.toNat m.toNat)) (addB w (.cells (((Array.range (m.toNat * esz)).map (zv.cells[· % zv.cells.size]!))) e)) := by
              have hti : (typeInfo e).run cx.P w = .ok inf w := by simp [typeInfo, hi]
              simp only [execOp, Instr.makeSlice, en, em, Sem.run_bind, run_underlying hu, Result.andThen_ok, asInt, asIntOf, Sem.run_pure, hti, wn, wm]
              rw [if_neg (by simp; omega)]
              simp only [run_askRoom, Sem.run_bind, Result.andThen_ok, run_sizeOf (show (cx.P.info? e).map (·.size) = some esz by simp [hi, k1])]
              by_cases h0 : m.toNat * esz = 0
              · rw [if_pos h0]
                simp only [Sem.run_bind, Sem.run_pure, Result.andThen_ok]
                rw [h0]; simp [newRow, addB, Array.range_zero']
              · rw [if_neg h0]
                simp [hz1, newRow, addB]
            have hlen := hrel.len
            have hr := objR_new h.mem (rest := #[]) (el := e) (h.mem.freshH _ (Nat.le_refl _)) hrel
            have hvc : ((Array.range (m.toNat * esz)).map (zv.cells[· % esz]!)).toList.toArray ++ #[] = ((Array.range (m.toNat * esz)).map (zv.cells[· % zv.cells.size]!)) := by rw [Array.append_empty, Array.toArray_toList, hzsz]
            rw [hvc] at hr
            refine ⟨_, _, _, Z, .inl hrun, goes_addH h.mem hr, ?_⟩
            exact .sl _ _ _ _ _ 0 m.toNat (m.toNat * esz) 0 (by simp [ph, ups]) (by simp [rowSize, addB_get]) (by simp) (by omega) (.inl (by simp))
        · simp at hs
      · simp at hs
    · simp at h3
  · simp at hok

theorem isU8_spec {P : Program} {e : TypeId} (h : isU8 P e = true) : P.underlying e = some (.int .u8) := by
  unfold isU8 at h
  split at h
  · assumption
  · simp at h

theorem bytes_rel {fm : Fm} {φ : Ph} (l : List UInt8) : VRs fm φ Z w (l.map fun b => AV.int .u8 b.toNat) (l.map fun b => Value.int .u8 b.toNat) := by
  induction l with
  | nil => exact .nil
  | cons b l ih => exact .cons (.int _ _) ih

theorem freeze_addB {w : World} {arr : Array Value} {el : TypeId} : (addB w (.cells arr el)).freeze ⟨w.heap.size, arr.size, none⟩ 1 = addB w (.cells arr el (arr.size, arr.size + 1)) := by
  unfold World.freeze addB
  simp only [Nat.one_ne_zero, if_false]
  congr 1
  apply Array.ext_getElem?
  intro i
  rw [Array.getElem?_modify, Array.getElem?_push, Array.getElem?_push]
  by_cases h : i = w.heap.size
  · subst h; simp
  · have : ¬ w.heap.size = i := fun e => h e.symm
    simp [h, this]

theorem sim_sbytes (h : SR cx nt ψ Z s a w) {x : AOpd} (hok : okOp cx o (.sbytes x) = true) (hs : (AOp.sbytes x).sem o.dst s.T s.L s.H = some (tv, L', H')) : OpSim cx ψ Z s a w o tv L' H' := by
  obtain ⟨dst, op', type, pos, after, guard⟩ := o
  simp only [okOp] at hok
  split at hok
  · rename_i src d y
    simp only [Bool.and_eq_true] at hok
    obtain ⟨⟨h1, h2⟩, h3⟩ := hok
    obtain ⟨ds, hds⟩ := Option.isSome_iff_exists.1 h2
    split at h3
    · rename_i e hu
      have he := isU8_spec h3
      simp only [AOp.sem] at hs
      split at hs
      · rename_i l hx
        simp only [Option.some.injEq, Prod.mk.injEq] at hs; obtain ⟨rfl, rfl, rfl⟩ := hs
        have hc := str_inv (h.opdv h1 hx)
        generalize hcap : (Question.appendCap l.length 0 e).cut (w.tape w.drawn (Question.appendCap l.length 0 e)) = cap
        have hge : l.length ≤ cap := by rw [← hcap]; simp [Question.cut]
        generalize harr : ((⟨⟨l⟩⟩ : ByteArray).data.map (fun b => Value.int .u8 b.toNat)) ++ Array.replicate (cap - l.length) (Value.int .u8 0) = arr
        have hrun : (execOp a.eval ⟨dst, .convert src d y, type, pos, after, guard⟩).run cx.P w = .ok (.value (.slice (some ⟨w.heap.size, 0, none⟩) l.length cap)) (addB { w with drawn := w.drawn + 1 } (.cells arr e (arr.size, arr.size + 1))) := by
          have hz : (⟨⟨l⟩⟩ : ByteArray).size = l.length := rfl
          simp only [execOp, hc, convert, Sem.run_bind, run_underlying hds, run_underlying hu, run_underlying he, Result.andThen_ok, Conv.stringToBytes, run_choose, Question.forced, Bool.false_eq_true, if_false, newRow, run_newObj, Sem.run_pure, hz, hcap, harr, markStringish, run_shape]
          have hsh : ({ w with drawn := w.drawn + 1, heap := w.heap.push (.cells arr e) } : World).shape? w.heap.size = some (e, arr.size) := by simp [World.shape?]
          simp only [hsh, run_freeze, Result.andThen_ok]
          have := freeze_addB (w := { w with drawn := w.drawn + 1 }) (arr := arr) (el := e)
          simp only [addB] at this ⊢
          rw [this]
        have md : MemR cx ψ Z s.L s.H { w with drawn := w.drawn + 1 } := by
          have e1 : Ext (ph ψ) (ph ψ) Z Z w { w with drawn := w.drawn + 1 } := ext_drew
          exact ⟨⟨fun o x hx => by obtain ⟨p, hp, hr⟩ := h.mem.inv.obj o x hx; exact ⟨p, hp, hr.ext e1 rfl rfl⟩, h.mem.inv.inj, h.mem.inv.zs⟩, h.mem.freshH, h.mem.freshL, h.mem.gl.ext e1⟩
        have gd : Goes cx ψ Z s.L s.H w ψ Z s.L s.H { w with drawn := w.drawn + 1 } := ⟨md, ext_drew, fun _ _ hh => hh, ⟨fun _ _ _ => rfl, fun _ _ hh => hh⟩, .inl ⟨rfl, fun _ _ _ _ _ => rfl⟩, fun _ _ _ => rfl⟩
        have hsz : arr.size = cap := by rw [← harr]; simp; omega
        have g2 := goes_addZ md (arr := arr) (el := e) (fr := (arr.size, arr.size + 1)) (n := l.length) (by omega)
        refine ⟨_, _, ψ, _, .inl hrun, gd.trans g2, ?_⟩
        have hfp := fp_new md (arr := arr) (el := e) (fr := (arr.size, arr.size + 1)) (bytes_rel (fm := cx.fm) (φ := ph ψ) (Z := Z) (w := { w with drawn := w.drawn + 1 }) l) (fun i v hv => by
          rw [← harr, Array.getElem?_append]
          have hi : i < l.length := by
            rcases Nat.lt_or_ge i l.length with hh | hh
            · exact hh
            · rw [List.getElem?_eq_none (by simpa using hh)] at hv; simp at hv
          simp at hv ⊢
          simp [hi]; simpa [hi] using hv) (by simp; omega)
        have hll : (l.map fun b => AV.int .u8 b.toNat).length = l.length := by simp
        rw [hll] at hfp
        exact pl_of_fp hge hfp trivial
      · simp at hs
    · simp at h3
  · simp at hok

end
end Go.Am
