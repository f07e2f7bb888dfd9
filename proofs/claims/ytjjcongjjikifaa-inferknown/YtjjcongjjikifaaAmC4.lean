/- Operations that change nothing: parts of arrays, lengths, the greatest, closures, structs, bytes as text. -/
import Derived.Test.YtjjcongjjikifaaAmC3
import Derived.Laws.BytesArg
set_option linter.unusedVariables false
set_option linter.unusedSimpArgs false
namespace Go.Am
section
variable {cx : Cx} {nt : Nat} {ψ : Ps} {Z : Ze} {s : St} {a : Act} {w : World} {o : Oper} {tv : TV} {L' : Boxes} {H' : Heap}

theorem sim_sliceA (h : SR cx nt ψ Z s a w) {n esz : Nat} {x : AOpd} {lo hi : Option AOpd} (hok : okOp cx o (.sliceA n esz x lo hi) = true) (hs : (AOp.sliceA n esz x lo hi).sem o.dst s.T s.L s.H = some (tv, L', H')) : OpSim cx ψ Z s a w o tv L' H' := by
  obtain ⟨dst, op', type, pos, after, guard⟩ := o
  simp only [okOp] at hok
  split at hok
  · rename_i t y l hh
    simp only [Bool.and_eq_true] at hok
    obtain ⟨⟨⟨h1, h2⟩, h3⟩, h4⟩ := hok
    split at h4
    · rename_i n2 e hu
      simp only [Bool.and_eq_true, decide_eq_true_eq] at h4
      have e1 := Nat.eq_of_beq_eq_true h4.1; subst e1
      have hsz := h4.2
      simp only [AOp.sem] at hs
      split at hs
      · rename_i id off hx
        split at hs
        · rename_i b hb
          split at hs
          · rename_i c hc
            split at hs
            · rename_i cs hg
              split at hs
              · rename_i hle
                have hle := Nat.le_of_ble_eq_true hle
                simp only [Option.some.injEq, Prod.mk.injEq] at hs; obtain ⟨rfl, rfl, rfl⟩ := hs
                have r1 := bound_run h h3 hb
                have r2 := bound_run h h2 hc
                have hcb : c ≤ b := by rcases r2 with ⟨_, rfl⟩ | ⟨z, k, i, _, _, _, _, rfl⟩ <;> omega
                have hbl : b ≤ n := by rcases r1 with ⟨_, rfl⟩ | ⟨z, k, i, _, _, _, _, rfl⟩ <;> omega
                obtain ⟨bb, e0, p1, p2⟩ := ptr_form (h.opdv h1 hx)
                obtain ⟨bb', e0', arr, el, q1, q2, q3, q4, q5⟩ := obj_cells h.mem (o := .inl id) (c := cs) (by simp [look, hg])
                have p1' : ψ (.inl id) = some (bb, e0) := p1
                rw [p1'] at q1; simp at q1; obtain ⟨rfl, rfl⟩ := q1
                have hbr := bounds_run (P := cx.P) (ρ := a.eval) (w := w) (isS := false) (ln := n) (cap := n) (hi := b) (lo := c) (l := l) (h := hh) r1 r2
                have hcm : c * esz ≤ n * esz := Nat.mul_le_mul_right _ (by omega)
                have hrs : rowSize w bb = some arr.size := by simp [rowSize, q3]
                by_cases hcc : n = c
                · refine opSim_pure h (val := .slice (some ⟨bb, e0 + off, none⟩) (b - c) (n - c)) ?_ (.sl _ _ _ _ _ _ _ arr.size _ p1 hrs ?_ (by omega) (.inr (by omega)))
                  · simp only [execOp, p2, Option.map_none, Instr.sliceAt, Sem.run_bind, run_underlying hu, Result.andThen_ok, Instr.sureAddr, Sem.run_pure, hbr, run_sizeOf hsz, if_pos hcc]
                  · rw [Nat.sub_mul]; omega
                · refine opSim_pure h (val := .slice (some ⟨bb, e0 + off + c * esz, none⟩) (b - c) (n - c)) ?_ (.sl _ _ _ _ _ _ _ arr.size _ p1 hrs ?_ (by omega) (.inl (by omega)))
                  · simp only [execOp, p2, Option.map_none, Instr.sliceAt, Sem.run_bind, run_underlying hu, Result.andThen_ok, Instr.sureAddr, Sem.run_pure, hbr, run_sizeOf hsz, if_neg hcc, add_at]
                  · rw [Nat.sub_mul]; omega
              · simp at hs
            · simp at hs
          · simp at hs
        · simp at hs
      · simp at hs
    · simp at h4
  · simp at hok

theorem args1 {c : Call} {x : Operand} {t : TypeId} (h1 : c.args.toList = [x]) (h2 : c.argTypes.toList = [t]) : c.args = #[x] ∧ c.argTypes = #[t] := ⟨Array.ext' (by simpa using h1), Array.ext' (by simpa using h2)⟩

theorem sim_len (h : SR cx nt ψ Z s a w) {ty : Nat} {x : AOpd} (hok : okOp cx o (.len ty x) = true) (hs : (AOp.len ty x).sem o.dst s.T s.L s.H = some (tv, L', H')) : OpSim cx ψ Z s a w o tv L' H' := by
  obtain ⟨dst, op', type, pos, after, guard⟩ := o
  simp only [okOp] at hok
  split at hok
  · rename_i c
    split at hok
    · rename_i hcal
      split at hok
      · rename_i y t ha ht
        obtain ⟨e1, e2⟩ := args1 ha ht
        simp only [Bool.and_eq_true] at hok
        obtain ⟨h1, h2⟩ := hok
        have run : ∀ {v : Value} {n : Nat}, (Builtin.len_ #[t] type #[a.eval y]).run cx.P w = .ok (goInt n) w → (execOp a.eval ⟨dst, .call c, type, pos, after, guard⟩).run cx.P w = .ok (.value (.int .i64 n)) w := fun {v n} hr => by
          simp only [execOp, resolve, hcal, e1, e2, Sem.run_bind, Sem.run_pure, Result.andThen_ok, invoke, builtin, List.map_toArray, List.map_cons, List.map_nil, hr]
          rfl
        simp only [AOp.sem] at hs
        split at hs
        · rename_i l hx
          simp only [Option.some.injEq, Prod.mk.injEq] at hs; obtain ⟨rfl, rfl, rfl⟩ := hs
          have hc := str_inv (h.opdv h1 hx)
          split at h2
          · rename_i hu _
            exact opSim_pure h (run (v := .nilFunc) (by simp [Builtin.len_, hc, run_underlying hu]; rfl)) (.int _ _)
          · rename_i h0; simp at h0
          · rename_i h0; simp at h0
          · simp at h2
        · rename_i cs n tk hx
          simp only [Option.some.injEq, Prod.mk.injEq] at hs; obtain ⟨rfl, rfl, rfl⟩ := hs
          obtain ⟨ad, cap, hc, _⟩ := pl_inv (h.opdv h1 hx)
          split at h2
          · rename_i h0; simp at h0
          · rename_i e hu _
            exact opSim_pure h (run (v := .nilFunc) (by simp [Builtin.len_, hc, run_underlying hu])) (.int _ _)
          · rename_i h0; simp at h0
          · simp at h2
        · rename_i id off n esz hx
          simp only [Option.some.injEq, Prod.mk.injEq] at hs; obtain ⟨rfl, rfl, rfl⟩ := hs
          obtain ⟨b, e, cap, sz, o0, hc, _⟩ := sl_inv (h.opdv h1 hx)
          split at h2
          · rename_i h0; simp at h0
          · rename_i e hu _
            exact opSim_pure h (run (v := .nilFunc) (by simp [Builtin.len_, hc, run_underlying hu])) (.int _ _)
          · rename_i h0; simp at h0
          · simp at h2
        · rename_i id hx
          split at hs
          · rename_i es hg
            simp only [Option.some.injEq, Prod.mk.injEq] at hs; obtain ⟨rfl, rfl, rfl⟩ := hs
            have hv := h.opdv h1 hx
            obtain ⟨⟨b, e⟩, hp, hz, ms, clk, es0, hb, hpm, _, hm⟩ := h.mem.inv.obj (.inl id) (.map es) (by simp [look, hg])
            have hc : a.eval y = .map (some b) := by
              generalize a.eval y = v at hv
              cases hv with
              | map _ b' e' hh => have hh : ψ (.inl id) = some (b', e') := hh
                                  rw [hp] at hh; simp at hh; rw [hh.1]
            have hlen : es.length = ms.size := by
              have : ∀ {l : List (AV × AV)} {m : List MapEntry}, All2 (ER cx.fm (ph ψ) Z w) l m → l.length = m.length := fun {l m} hh => by
                induction hh with
                | nil => rfl
                | cons _ _ ih => simp [ih]
              rw [← hpm.length_eq]; simpa using this hm.rel
            split at h2
            · rename_i h0; simp at h0
            · rename_i h0; simp at h0
            · rename_i k e hu _
              have := run (v := .nilFunc) (n := es.length) (by simp [Builtin.len_, hc, run_underlying hu, getObj, Sem.run, hb, hlen])
              exact opSim_pure h this (.int _ _)
            · simp at h2
          · simp at hs
        · rename_i hx
          simp only [Option.some.injEq, Prod.mk.injEq] at hs; obtain ⟨rfl, rfl, rfl⟩ := hs
          have hv := h.opdv h1 hx
          have hc : a.eval y = .map none := by
            generalize a.eval y = v at hv
            cases hv; rfl
          split at h2
          · rename_i h0; simp at h0
          · rename_i h0; simp at h0
          · rename_i k e hu _
            have := run (v := .nilFunc) (n := 0) (by simp [Builtin.len_, hc, run_underlying hu])
            exact opSim_pure h this (.int _ _)
          · simp at h2
        · simp at hs
      · simp at hok
    · simp at hok
  · simp at hok

theorem fold2_run {P : Program} {fm : Fm} {φ : Ph} {f : AV → AV → Option AV} {g : Value → Value → Sem Value} (hfg : ∀ a b c u v, f a b = some c → VR fm φ Z w a u → VR fm φ Z w b v → ∃ x, (g u v).run P w = .ok x w ∧ VR fm φ Z w c x) :
    ∀ (l : List AV) (vs : List Value) (a : AV) (u : Value) (r : AV), VRs fm φ Z w l vs → VR fm φ Z w a u → fold2 f a l = some r → ∃ x, (vs.foldlM g u).run P w = .ok x w ∧ VR fm φ Z w r x
  | [], vs, a, u, r, hl, ha, hr => by
    cases hl
    simp [fold2] at hr; subst hr
    exact ⟨u, by simp, ha⟩
  | b :: l, vs, a, u, r, hl, ha, hr => by
    cases hl with
    | @cons _ v _ vs hb hl =>
      unfold fold2 at hr
      split at hr
      · rename_i c hc
        obtain ⟨x, hx, hcx⟩ := hfg a b c u v hc ha hb
        obtain ⟨y, hy, hry⟩ := fold2_run hfg l vs c x r hl hcx hr
        exact ⟨y, by simp [List.foldlM_cons, hx, hy], hry⟩
      · simp at hr

theorem max2_run {P : Program} {fm : Fm} {φ : Ph} : ∀ a b c u v, max2 a b = some c → VR fm φ Z w a u → VR fm φ Z w b v → ∃ x, (Builtin.max2 u v).run P w = .ok x w ∧ VR fm φ Z w c x := by
  intro a b c u v hc ha hb
  unfold max2 at hc
  split at hc
  · simp at hc; subst hc
    cases ha; cases hb
    exact ⟨_, by simp [Builtin.max2] <;> rfl, .int _ _⟩
  · simp at hc
theorem min2_run {P : Program} {fm : Fm} {φ : Ph} : ∀ a b c u v, min2 a b = some c → VR fm φ Z w a u → VR fm φ Z w b v → ∃ x, (Builtin.min2 u v).run P w = .ok x w ∧ VR fm φ Z w c x := by
  intro a b c u v hc ha hb
  unfold min2 at hc
  split at hc
  · simp at hc; subst hc
    cases ha; cases hb
    exact ⟨_, by simp [Builtin.min2] <;> rfl, .int _ _⟩
  · simp at hc

theorem sim_max (h : SR cx nt ψ Z s a w) {xs : List AOpd} (hok : okOp cx o (.max xs) = true) (hs : (AOp.max xs).sem o.dst s.T s.L s.H = some (tv, L', H')) : OpSim cx ψ Z s a w o tv L' H' := by
  obtain ⟨dst, op', type, pos, after, guard⟩ := o
  simp only [okOp] at hok
  split at hok
  · rename_i c
    split at hok
    · rename_i hcal
      simp only [AOp.sem] at hs
      cases he : evas s.T xs with
      | none => rw [he] at hs; simp [ret1] at hs
      | some l =>
        rw [he] at hs
        simp only [Option.bind_some] at hs
        have hl := h.opds hok he
        cases l with
        | nil => simp [fold1, ret1] at hs
        | cons b l =>
          simp only [fold1] at hs
          cases hf : fold2 max2 b l with
          | none => rw [hf] at hs; simp [ret1] at hs
          | some r =>
            rw [hf] at hs
            simp only [ret1, Option.map_some, Option.some.injEq, Prod.mk.injEq] at hs; obtain ⟨rfl, rfl, rfl⟩ := hs
            generalize hq : List.map a.eval c.args.toList = vs at hl
            cases hl with
            | @cons _ u _ vs hb hl =>
              obtain ⟨x, hx, hr⟩ := fold2_run (P := cx.P) max2_run l vs b u r hl hb hf
              refine opSim_pure h (val := x) ?_ hr
              simp only [execOp, resolve, hcal, Sem.run_bind, Sem.run_pure, Result.andThen_ok, invoke, builtin, Builtin.max_, Array.toList_map, hq, hx]
    · simp at hok
  · simp at hok
theorem sim_min (h : SR cx nt ψ Z s a w) {xs : List AOpd} (hok : okOp cx o (.min xs) = true) (hs : (AOp.min xs).sem o.dst s.T s.L s.H = some (tv, L', H')) : OpSim cx ψ Z s a w o tv L' H' := by
  obtain ⟨dst, op', type, pos, after, guard⟩ := o
  simp only [okOp] at hok
  split at hok
  · rename_i c
    split at hok
    · rename_i hcal
      simp only [AOp.sem] at hs
      cases he : evas s.T xs with
      | none => rw [he] at hs; simp [ret1] at hs
      | some l =>
        rw [he] at hs
        simp only [Option.bind_some] at hs
        have hl := h.opds hok he
        cases l with
        | nil => simp [fold1, ret1] at hs
        | cons b l =>
          simp only [fold1] at hs
          cases hf : fold2 min2 b l with
          | none => rw [hf] at hs; simp [ret1] at hs
          | some r =>
            rw [hf] at hs
            simp only [ret1, Option.map_some, Option.some.injEq, Prod.mk.injEq] at hs; obtain ⟨rfl, rfl, rfl⟩ := hs
            generalize hq : List.map a.eval c.args.toList = vs at hl
            cases hl with
            | @cons _ u _ vs hb hl =>
              obtain ⟨x, hx, hr⟩ := fold2_run (P := cx.P) min2_run l vs b u r hl hb hf
              refine opSim_pure h (val := x) ?_ hr
              simp only [execOp, resolve, hcal, Sem.run_bind, Sem.run_pure, Result.andThen_ok, invoke, builtin, Builtin.min_, Array.toList_map, hq, hx]
    · simp at hok
  · simp at hok

theorem sim_extract (h : SR cx nt ψ Z s a w) {i : Nat} {x : AOpd} (hok : okOp cx o (.extract i x) = true) (hs : (AOp.extract i x).sem o.dst s.T s.L s.H = some (tv, L', H')) : OpSim cx ψ Z s a w o tv L' H' := by
  obtain ⟨dst, op', type, pos, after, guard⟩ := o
  simp only [okOp] at hok
  split at hok
  · rename_i y j
    simp only [Bool.and_eq_true] at hok
    obtain ⟨h1, h2⟩ := hok
    have e := Nat.eq_of_beq_eq_true h2; subst e
    simp only [AOp.sem] at hs
    split at hs
    · rename_i vs hx
      obtain ⟨xs, hxs, hrel⟩ := tup_inv (h.opdv h1 hx)
      cases hg : vs[i]? with
      | none => rw [hg] at hs; simp [ret1] at hs
      | some v =>
        rw [hg] at hs
        simp only [ret1, Option.map_some, Option.some.injEq, Prod.mk.injEq] at hs; obtain ⟨rfl, rfl, rfl⟩ := hs
        obtain ⟨val, hv, hr⟩ := hrel.getElem? i hg
        have hv' : xs[i]? = some val := by simpa using hv
        exact opSim_pure h (val := val) (by simp [execOp, hxs, Instr.extract, hv']) hr
    · rename_i id key ver hx
      split at hs
      · rename_i hi
        have e := Nat.eq_of_beq_eq_true hi; subst e
        simp only [Option.some.injEq, Prod.mk.injEq] at hs; obtain ⟨rfl, rfl, rfl⟩ := hs
        have hv := h.opd h1
        rw [hx] at hv
        obtain ⟨q1, n, q2, q3⟩ := hv
        simp only [Bool.false_eq_true, if_false] at q2
        obtain ⟨v0, q2⟩ := q2
        exact opSim_pure h (val := .int .i64 n) (by simp [execOp, q2, Instr.extract]) ⟨q1, n, by simp, q3⟩
      · simp at hs
    · simp at hs
  · simp at hok

theorem sim_mkfun (h : SR cx nt ψ Z s a w) {g : Nat} {xs ys : List AOpd} (hok : okOp cx o (.mkfun g xs ys) = true) (hs : (AOp.mkfun g xs ys).sem o.dst s.T s.L s.H = some (tv, L', H')) : OpSim cx ψ Z s a w o tv L' H' := by
  obtain ⟨dst, op', type, pos, after, guard⟩ := o
  simp only [okOp] at hok
  split at hok
  · rename_i f us vs
    simp only [Bool.and_eq_true, decide_eq_true_eq] at hok
    obtain ⟨⟨h1, h2⟩, h3⟩ := hok
    simp only [AOp.sem] at hs
    split at hs
    · rename_i A B hA hB
      simp only [Option.some.injEq, Prod.mk.injEq] at hs; obtain ⟨rfl, rfl, rfl⟩ := hs
      have rA := h.opds h2 hA
      have rB := h.opds h3 hB
      refine opSim_pure h (val := .func (.func f) (us.map a.eval) (vs.map a.eval)) (by simp [execOp, Instr.makeFunc]) ?_
      refine .func _ _ _ _ _ _ h1 (by simpa using rA.len) (by simpa using rB.len) (fun i q1 q2 => ?_) (fun i q1 q2 => ?_)
      · have := rA.at_ i q1 (by simpa using q2); simpa using this
      · have := rB.at_ i q1 (by simpa using q2); simpa using this
    · simp at hs
  · simp at hok

/-! structs -/
theorem set_range_eq (cs : List Value) : ∀ (vs : List Value) (off : Nat), off + vs.length ≤ cs.length → (vs.zipIdx.foldl (fun (cs : Array Value) (p : Value × Nat) => cs.setIfInBounds (off + p.2) p.1) cs.toArray) = (cs.take off ++ (vs ++ cs.drop (off + vs.length))).toArray := by
  have gen : ∀ (vs : List Value) (off k : Nat) (cs : List Value), off + k + vs.length ≤ cs.length → ((vs.zipIdx k).foldl (fun (cs : Array Value) (p : Value × Nat) => cs.setIfInBounds (off + p.2) p.1) cs.toArray) = (cs.take (off + k) ++ (vs ++ cs.drop (off + k + vs.length))).toArray := by
    intro vs
    induction vs with
    | nil => intro off k cs h; simp
    | cons v vs ih =>
      intro off k cs h
      simp only [List.length_cons] at h
      rw [List.zipIdx_cons, List.foldl_cons]
      simp only [List.setIfInBounds_toArray]
      rw [ih off (k + 1) (cs.set (off + k) v) (by simp; omega)]
      congr 1
      have e1 : (cs.set (off + k) v).take (off + (k + 1)) = cs.take (off + k) ++ [v] := by
        rw [← Nat.add_assoc, List.take_set, List.take_succ_eq_append_getElem (by omega)]
        rw [List.set_append_right _ _ (by simp; omega)]
        have : off + k - (cs.take (off + k)).length = 0 := by simp; omega
        rw [this]; rfl
      have e2 : (cs.set (off + k) v).drop (off + (k + 1) + vs.length) = cs.drop (off + k + (vs.length + 1)) := by
        rw [List.drop_set_of_lt (by omega)]; congr 1; omega
      rw [e1, e2]; simp
  intro vs off h
  have := gen vs off 0 cs (by simpa using h)
  simpa using this

theorem cells_rel {fm : Fm} {φ : Ph} {A : AV} {v : Value} (h : VR fm φ Z w A v) : VRs fm φ Z w A.cells v.cells.toList := by
  cases A with
  | agg cs =>
    obtain ⟨xs, rfl, hx⟩ := agg_inv h
    simpa [AV.cells, Value.cells] using hx
  | _ =>
    have hv : v.cells = #[v] := by cases h <;> rfl
    rw [hv]
    exact .cons h .nil

theorem fill_run (h : SR cx nt ψ Z s a w) (place : Nat → Option (Nat × Nat)) : ∀ (qs : List (Nat × Operand)) (ps : List (Nat × Nat × AOpd)) (z : List AV) (cs : List Value) (r : List AV), okParts cx place qs ps = true → VRs cx.fm (ph ψ) Z w z cs → fillA s.T z ps = some r →
    ∃ cs', Instr.fill place cs.toArray (qs.map fun p => (p.1, a.eval p.2)) = some cs'.toArray ∧ VRs cx.fm (ph ψ) Z w r cs'
  | [], [], z, cs, r, hk, hz, hr => by simp [fillA] at hr; subst hr; exact ⟨cs, by simp [Instr.fill], hz⟩
  | [], _ :: _, z, cs, r, hk, hz, hr => by simp [okParts] at hk
  | _ :: _, [], z, cs, r, hk, hz, hr => by simp [okParts] at hk
  | (i, x) :: qs, (off, n, y) :: ps, z, cs, r, hk, hz, hr => by
    simp only [okParts, Bool.and_eq_true, decide_eq_true_eq] at hk
    obtain ⟨⟨h1, h2⟩, h3⟩ := hk
    unfold fillA at hr
    split at hr
    · rename_i A hA
      split at hr
      · rename_i hb
        simp only [Bool.and_eq_true] at hb
        have e1 := Nat.eq_of_beq_eq_true hb.1
        have e2 := Nat.le_of_ble_eq_true hb.2
        have hc := cells_rel (h.opda h2 hA)
        have hl := hc.len
        have hzl := hz.len
        have hsz : (a.eval x).cells.size = n := by rw [← e1, hl]; simp
        have hset : (a.eval x).cells.zipIdx.foldl (fun (cs : Array Value) (p : Value × Nat) => cs.setIfInBounds (off + p.2) p.1) cs.toArray = (cs.take off ++ ((a.eval x).cells.toList ++ cs.drop (off + n))).toArray := by
          rw [← Array.foldl_toList, Array.toList_zipIdx]
          have := set_range_eq cs (a.eval x).cells.toList off (by simp [hsz]; omega)
          rw [this]; simp [hsz]
        have hrel : VRs cx.fm (ph ψ) Z w (splice z off A.cells) (cs.take off ++ ((a.eval x).cells.toList ++ cs.drop (off + n))) := by
          unfold splice
          rw [e1]
          exact (hz.take off).append (hc.append (hz.drop (off + n)))
        obtain ⟨cs', q1, q2⟩ := fill_run h place qs ps _ _ r h3 hrel hr
        refine ⟨cs', ?_, q2⟩
        simp only [List.map_cons, Instr.fill, h1]
        have hc1 : ((a.eval x).cells.size ≠ n || off + (a.eval x).cells.size > cs.toArray.size) = false := by
          rw [hsz]; simp; omega
        rw [hc1]
        simp only [Bool.false_eq_true, if_false]
        rw [hset]; exact q1
      · simp at hr
    · simp at hr

theorem okZero_run {P : Program} {t : TypeId} {z : List AV} (hk : okZero P t z = true) {fm : Fm} {φ : Ph} {w : World} : ∃ v, (zeroValue t).run P w = .ok v w ∧ VRs fm φ Z w z v.cells.toList := by
  unfold okZero at hk
  split at hk
  · rename_i v hv
    cases hi : P.info? t with
    | none => rw [hi] at hv; simp at hv
    | some i =>
      rw [hi] at hv
      simp only [Option.bind_some] at hv
      exact ⟨v, by simp [zeroValue, typeInfo, hi, hv], okVals_vrs hk⟩
  · simp at hk

theorem placesOf_run {P : Program} {w : World} {fs : Array Field} {pl : Array (Nat × Nat)} (hp : placesOf P fs = some pl) : (fs.mapM fun f => do pure (f.offset, ← sizeOf f.type) : Sem (Array (Nat × Nat))).run P w = .ok pl w := by
  unfold placesOf at hp
  rw [Array.mapM_eq_mapM_toList] at hp ⊢
  have key : ∀ (l : List Field) (r : List (Nat × Nat)), (l.mapM fun f => (P.info? f.type).map fun i => (f.offset, i.size)) = some r → (l.mapM fun f => do pure (f.offset, ← sizeOf f.type) : Sem (List (Nat × Nat))).run P w = .ok r w := by
    intro l
    induction l with
    | nil => intro r hr; simp at hr; subst hr; simp
    | cons f l ih =>
      intro r hr
      rw [List.mapM_cons] at hr
      simp only [bind, Option.bind_eq_some_iff, Option.map_eq_some_iff, pure, Option.some.injEq] at hr
      obtain ⟨p, ⟨i, hi, rfl⟩, r', hr', rfl⟩ := hr
      have := ih r' (by simpa [bind, pure] using hr')
      rw [List.mapM_cons]
      simp only [Sem.run_bind, Sem.run_pure, Result.andThen_ok]
      rw [run_sizeOf (n := i.size) (by simp [hi])]
      simp only [Result.andThen_ok]
      rw [this]; rfl
  simp only [Option.map_eq_map, Option.map_eq_some_iff] at hp
  obtain ⟨r, hr, rfl⟩ := hp
  have := key _ _ hr
  simp only [Sem.run_map]
  rw [this]; rfl

theorem sim_build (h : SR cx nt ψ Z s a w) {z : List AV} {ps : List (Nat × Nat × AOpd)} (hok : okOp cx o (.build z ps) = true) (hs : (AOp.build z ps).sem o.dst s.T s.L s.H = some (tv, L', H')) : OpSim cx ψ Z s a w o tv L' H' := by
  obtain ⟨dst, op', type, pos, after, guard⟩ := o
  simp only [okOp] at hok
  split at hok
  · rename_i t qs
    simp only [Bool.and_eq_true] at hok
    obtain ⟨h1, h2⟩ := hok
    obtain ⟨zv, hz1, hz2⟩ := okZero_run h1 (fm := cx.fm) (φ := ph ψ) (Z := Z) (w := w)
    simp only [AOp.sem] at hs
    cases hf : fillA s.T z ps with
    | none => rw [hf] at hs; simp [ret1] at hs
    | some r =>
      rw [hf] at hs
      simp only [ret1, Option.map_some, Option.some.injEq, Prod.mk.injEq] at hs; obtain ⟨rfl, rfl, rfl⟩ := hs
      have hparts : (qs.map fun (p : Nat × Operand) => (p.1, a.eval p.2)).toList = qs.toList.map fun p => (p.1, a.eval p.2) := by simp
      split at h2
      · rename_i fs hu
        split at h2
        · rename_i pl hpl
          obtain ⟨cs', q1, q2⟩ := fill_run h _ _ _ _ _ _ h2 hz2 hf
          refine opSim_pure h (val := .agg cs'.toArray) ?_ (vr_agg q2)
          have hzz : zv.cells.toList.toArray = zv.cells := by simp
          rw [hzz] at q1
          have hpr := placesOf_run (P := cx.P) (w := w) hpl
          simp only [execOp, Instr.build, Sem.run_bind, hz1, Result.andThen_ok, run_underlying hu]
          rw [hpr]
          simp only [Result.andThen_ok]
          rw [hparts, q1]; rfl
        · simp at h2
      · rename_i n e hu
        split at h2
        · rename_i m hm
          obtain ⟨cs', q1, q2⟩ := fill_run h _ _ _ _ _ _ h2 hz2 hf
          refine opSim_pure h (val := .agg cs'.toArray) ?_ (vr_agg q2)
          have hzz : zv.cells.toList.toArray = zv.cells := by simp
          rw [hzz] at q1
          simp only [execOp, Instr.build, Sem.run_bind, hz1, Result.andThen_ok, run_underlying hu, run_sizeOf hm]
          rw [hparts, q1]; rfl
        · simp at h2
      · simp at h2
  · simp at hok

end
end Go.Am
