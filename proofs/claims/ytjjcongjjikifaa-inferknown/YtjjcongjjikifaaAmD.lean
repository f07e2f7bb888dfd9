/- Operations on maps; all operations together. -/
import Derived.Test.YtjjcongjjikifaaAmC9
set_option linter.unusedVariables false
set_option linter.unusedSimpArgs false
namespace Go.Am
section
variable {cx : Cx} {nt : Nat} {ψ : Ps} {Z : Ze} {s : St} {a : Act} {w : World} {o : Oper} {tv : TV} {L L' : Boxes} {H H' : Heap}

theorem obj_map (m : MemR cx ψ Z L H w) {id : Nat} {es : List (AV × AV)} (hl : H.get id = some (.map es)) : ∃ b e ms clk es0, ψ (.inl id) = some (b, e) ∧ Z b = 0 ∧ w.heap[b]? = some (.map ms clk) ∧ MR cx.fm (ph ψ) Z w es0 ms.toList clk ∧ es0.Perm es ∧ KD es := by
  obtain ⟨⟨b, e⟩, hp, hz, ms, clk, es0, h1, hpm, hkd, h2⟩ := m.inv.obj (.inl id) (.map es) (by simp [look, hl])
  exact ⟨b, e, ms, clk, es0, hp, hz, h1, h2, hpm, hkd⟩
theorem map_val {fm : Fm} {φ : Ph} {id b e : Nat} {v : Value} (h : VR fm φ Z w (.map id) v) (hp : φ id = some (b, e)) : v = .map (some b) := by
  cases h with
  | map _ b' e' hh => rw [hp] at hh; simp at hh; rw [hh.1]
theorem run_getMap {P : Program} {b clk : Nat} {ms : Array MapEntry} (h : w.heap[b]? = some (.map ms clk)) : (getObj b).run P w = .ok (.map ms clk) w := by
  simp [getObj, Sem.run, h]
theorem run_setMap {P : Program} {b clk : Nat} {ms : Array MapEntry} (h : w.heap[b]? = some (.map ms clk)) (o : Obj) : (setObj b o).run P w = .ok () (setB w b o) := by
  simp [setObj, Sem.run, h, setB]

theorem okZ_run {P : Program} {e : TypeId} {z : AV} (hk : (match (P.info? e).bind (·.zero) with
    | some v => (match v, z with
      | .agg cs, .agg l => okVals cs.toList l
      | v, z => okVal1 v z)
    | none => false) = true) {fm : Fm} {φ : Ph} : ∃ v, (zeroValue e).run P w = .ok v w ∧ VR fm φ Z w z v := by
  split at hk
  · rename_i v hv
    cases hi : P.info? e with
    | none => rw [hi] at hv; simp at hv
    | some i =>
      rw [hi] at hv
      simp only [Option.bind_some] at hv
      refine ⟨v, by simp [zeroValue, typeInfo, hi, hv], ?_⟩
      split at hk
      · rename_i cs l
        have := vr_agg (okVals_vrs (fm := fm) (φ := φ) (Z := Z) (w := w) hk)
        simpa using this
      · exact okVal1_vr hk
  · simp at hk

theorem sim_lookup (h : SR cx nt ψ Z s a w) {kt : KT} {z : AV} {ok : Bool} {m k : AOpd} (hok : okOp cx o (.lookup kt z ok m k) = true) (hs : (AOp.lookup kt z ok m k).sem o.dst s.T s.L s.H = some (tv, L', H')) : OpSim cx ψ Z s a w o tv L' H' := by
  obtain ⟨dst, op', type, pos, after, guard⟩ := o
  simp only [okOp] at hok
  split at hok
  · rename_i t x i ok'
    simp only [Bool.and_eq_true] at hok
    obtain ⟨⟨⟨h1, h2⟩, h3⟩, h4⟩ := hok
    have h3 : ok = ok' := by simpa using h3
    subst h3
    split at h4
    · rename_i kty e hu
      simp only [Bool.and_eq_true] at h4
      obtain ⟨h5, h6⟩ := h4
      obtain ⟨zv, hz1, hz2⟩ := okZ_run (Z := Z) (w := w) h6 (fm := cx.fm) (φ := ph ψ)
      simp only [AOp.sem] at hs
      split at hs
      · rename_i id key hm hk
        split at hs
        · rename_i es hg
          split at hs
          · rename_i r hko hf
            obtain ⟨b, e0, ms, clk, es0, p1, p2, p3, p4, p5, p6⟩ := obj_map h.mem hg
            have hmv := map_val (h.opda h1 hm) (show ph ψ id = some (b, e0) from p1)
            have hkv := h.opda h2 hk
            have hck := checkKey_run (P := cx.P) h5 hko hkv ms.isEmpty 9998
            have hfk := findKey_run h5 hko hkv p4.rel (mfind_perm p6 p5 hko hf)
            have hrun : ∀ {v : Value} {b0 : Bool}, (match (none : Option (Nat × Value)) with | _ => True) → ((∃ q, (Instr.findKey kty (a.eval i) ms.toList).run cx.P w = .ok (some (q, v)) w ∧ b0 = true) ∨ ((Instr.findKey kty (a.eval i) ms.toList).run cx.P w = .ok none w ∧ v = zv ∧ b0 = false)) →
                (execOp a.eval ⟨dst, .lookup t x i ok, type, pos, after, guard⟩).run cx.P w = .ok (.value (if ok then .tuple #[v, .bool b0] else v)) w := fun {v b0} _ hq => by
              rcases hq with ⟨q, hq, rfl⟩ | ⟨hq, rfl, rfl⟩
              · simp only [execOp, Instr.lookup, Sem.run_bind, run_underlying hu, Result.andThen_ok, hmv, run_getMap p3, Sem.run_pure, hck, hq]
              · simp only [execOp, Instr.lookup, Sem.run_bind, run_underlying hu, Result.andThen_ok, hmv, run_getMap p3, Sem.run_pure, hck, hq, hz1]
            have fin : ∀ {v : AV} {v' : Value} {b0 : Bool}, VR cx.fm (ph ψ) Z w v v' → VR cx.fm (ph ψ) Z w (.tup [v, .bool b0]) (.tuple #[v', .bool b0]) := fun {v v' b0} hv => .tup _ _ rfl (fun j q1 q2 => by
              match j, q1, q2 with
              | 0, _, _ => exact hv
              | 1, _, _ => exact .bool _)
            rcases hfk with ⟨rfl, hq⟩ | ⟨v, j, m', rfl, hF, hq⟩
            · have hr := hrun (v := zv) (b0 := false) trivial (.inr ⟨hq, rfl, rfl⟩)
              simp only [Option.getD_none, Option.isSome_none] at hs
              cases ok
              · simp only [Bool.false_eq_true, if_false, Option.some.injEq, Prod.mk.injEq] at hs hr; obtain ⟨rfl, rfl, rfl⟩ := hs
                exact opSim_pure h hr hz2
              · simp only [if_true, Option.some.injEq, Prod.mk.injEq] at hs hr; obtain ⟨rfl, rfl, rfl⟩ := hs
                exact opSim_pure h hr (fin hz2)
            · have hr := hrun (v := m'.val) (b0 := true) trivial (.inl ⟨j, hq, rfl⟩)
              simp only [Option.getD_some, Option.isSome_some] at hs
              cases ok
              · simp only [Bool.false_eq_true, if_false, Option.some.injEq, Prod.mk.injEq] at hs hr; obtain ⟨rfl, rfl, rfl⟩ := hs
                exact opSim_pure h hr hF.val
              · simp only [if_true, Option.some.injEq, Prod.mk.injEq] at hs hr; obtain ⟨rfl, rfl, rfl⟩ := hs
                exact opSim_pure h hr (fin hF.val)
          · simp at hs
        · simp at hs
      · simp at hs
    · simp at h4
  · simp at hok

theorem all2_set {α β : Type} {R : α → β → Prop} : ∀ {as : List α} {bs : List β} (_ : All2 R as bs) (j : Nat) {a : α} {b : β} (_ : R a b), All2 R (as.set j a) (bs.set j b)
  | _, _, .nil, j, a, b, hab => by simpa using All2.nil
  | _, _, .cons h t, 0, a, b, hab => .cons hab t
  | _, _, .cons h t, j + 1, a, b, hab => .cons h (all2_set t j hab)
theorem all2_snoc {α β : Type} {R : α → β → Prop} : ∀ {as : List α} {bs : List β} (_ : All2 R as bs) {a : α} {b : β} (_ : R a b), All2 R (as ++ [a]) (bs ++ [b])
  | _, _, .nil, a, b, hab => .cons hab .nil
  | _, _, .cons h t, a, b, hab => .cons h (all2_snoc t hab)
theorem all2_at {α β : Type} {R : α → β → Prop} : ∀ {as : List α} {bs : List β} (_ : All2 R as bs) (j : Nat) {a : α} {b : β} (_ : as[j]? = some a) (_ : bs[j]? = some b), R a b
  | _, _, .cons h t, 0, a, b, ha, hb => by simp at ha hb; subst ha; subst hb; exact h
  | _, _, .cons h t, j + 1, a, b, ha, hb => all2_at t j (by simpa using ha) (by simpa using hb)
theorem map_set_born (ms : List MapEntry) (j : Nat) (m m' : MapEntry) (h : ms[j]? = some m) (hb : m'.born = m.born) : (ms.set j m').map (·.born) = ms.map (·.born) := by
  rw [List.map_set, hb]
  obtain ⟨hj, rfl⟩ := List.getElem?_eq_some_iff.1 h
  apply List.ext_getElem (by simp)
  intro i q1 q2
  by_cases hi : j = i
  · subst hi; simp
  · simp [List.getElem_set_ne hi]

/-- One entry is turned. -/
theorem mr_set {fm : Fm} {φ : Ph} {es : List (AV × AV)} {ms : List MapEntry} {clk j : Nat} {m : MapEntry} {k' v u : AV} {x : Value} (h : MR fm φ Z w es ms clk) (he : es[j]? = some (k', v)) (hm : ms[j]? = some m) (hu : VR fm φ Z w u x) : MR fm φ Z w (es.set j (k', u)) (ms.set j { m with val := x }) clk := by
  have hr := all2_at h.rel j he hm
  refine ⟨all2_set h.rel j ⟨hr.key, hu⟩, fun m' hm' => ?_, ?_⟩
  · rcases List.mem_or_eq_of_mem_set hm' with h1 | h1
    · exact h.born _ h1
    · subst h1; exact h.born m (List.mem_of_getElem? hm)
  · rw [map_set_born ms j m ({ m with val := x }) hm rfl]; exact h.nodup
theorem mr_push {fm : Fm} {φ : Ph} {es : List (AV × AV)} {ms : List MapEntry} {clk : Nat} {k u : AV} {y x : Value} (h : MR fm φ Z w es ms clk) (hk : VR fm φ Z w k y) (hu : VR fm φ Z w u x) : MR fm φ Z w (es ++ [(k, u)]) (ms ++ [{ key := y, val := x, born := clk }]) (clk + 1) := by
  refine ⟨all2_snoc h.rel ⟨hk, hu⟩, fun m' hm' => ?_, ?_⟩
  · simp at hm'
    rcases hm' with h1 | h1
    · have := h.born _ h1; omega
    · subst h1; simp
  · rw [List.map_append, List.nodup_append]
    refine ⟨h.nodup, by simp, fun a ha b hb => ?_⟩
    simp at hb; subst hb
    simp at ha
    obtain ⟨m', hm', rfl⟩ := ha
    have := h.born _ hm'; omega

theorem mapGoes_push (ms : Array MapEntry) (m : MapEntry) (clk : Nat) : MapGoes ms clk (ms.push m) (clk + 1) := by
  refine ⟨by simp, fun i m0 h => ⟨m0, ?_, rfl, rfl⟩, fun h => by simp at h⟩
  have := (Array.getElem?_eq_some_iff.1 h).1
  rw [Array.getElem?_push, if_neg (by omega)]; exact h
theorem mapGoes_modify {ms : Array MapEntry} {j : Nat} {m0 : MapEntry} (h0 : ms[j]? = some m0) {clk : Nat} (f : MapEntry → MapEntry) (hb : (f m0).born = m0.born) (hk : (f m0).key = m0.key) : MapGoes ms clk (ms.modify j f) clk := by
  refine ⟨by simp, fun i m h => ?_, fun _ => rfl⟩
  rw [Array.getElem?_modify]
  by_cases hi : j = i
  · subst hi
    rw [h0] at h; simp only [Option.some.injEq] at h; subst h
    exact ⟨f m0, by simp [h0], hb, hk⟩
  · exact ⟨m, by simp [hi, h], rfl, rfl⟩

theorem goes_map (m : MemR cx ψ Z L H w) {id b e : Nat} {es es' : List (AV × AV)} {ms ms' : Array MapEntry} {clk clk' : Nat} (hg : H.get id = some (.map es)) (hp : ψ (.inl id) = some (b, e)) (hz : Z b = 0) (hb : w.heap[b]? = some (.map ms clk)) {es1 : List (AV × AV)} (hr : MR cx.fm (ph ψ) Z w es1 ms'.toList clk') (hpm : es1.Perm es') (hkd : KD es') (hmg : MapGoes ms clk ms' clk') :
    Goes cx ψ Z L H w ψ Z L (H.put id (.map es')) (setB w b (.map ms' clk')) := by
  have hrow : rowSize w b = none := by simp [rowSize, hb]
  have ex : Ext (ph ψ) (ph ψ) Z Z w (setB w b (.map ms' clk')) := ext_setM hb hrow hz (fun ms0 clk0 e0 => by cases e0; exact ⟨_, _, rfl, hmg⟩)
  have hb' : (setB w b (.map ms' clk')).heap[b]? = some (.map ms' clk') := by rw [setB_get, if_pos rfl, if_pos (lt_of_heap hb)]
  obtain ⟨i1, f1⟩ := inv_set m.inv (o := .inl id) (x := .map es) (x' := .map es') (p := (b, e)) (by simp [look, hg]) hp ex (setB_size _ _ _) (fun c hc => by rw [setB_get, if_neg hc]) ⟨hz, ms', clk', es1, hb', hpm, hkd, hr.ext ex⟩
  rw [← look_put] at i1 f1
  exact ⟨⟨i1, m.freshH, m.freshL, m.gl.ext ex⟩, ex, fun _ _ h => h, f1, .inr (by simp [Heap.put]), fun _ _ _ => rfl⟩

theorem toList_modify (ms : Array MapEntry) (j : Nat) (f : MapEntry → MapEntry) {m : MapEntry} (h : ms.toList[j]? = some m) : (ms.modify j f).toList = ms.toList.set j (f m) := by
  rw [Array.toList_modify]
  apply List.ext_getElem?
  intro i
  rw [List.getElem?_modify, List.getElem?_set]
  by_cases hi : j = i
  · subst hi; simp [h, (List.getElem?_eq_some_iff.1 h).1]; simpa using (List.getElem?_eq_some_iff.1 h).1
  · simp [hi]

/-- The entry that is found keeps its key. -/
theorem key_stays {P : Program} {fm : Fm} {φ : Ph} {key : AV} {es : List (AV × AV)} {ms : List MapEntry} {v : AV} {j : Nat} {m : MapEntry} {x : Value} (hF : Found fm φ Z w key es ms v j m) (hr : All2 (ER fm φ Z w) es ms) (hx : VR fm φ Z w key x) : m.key = x ∧ (Instr.keyThatStays m.key x).run P w = .ok x w := by
  obtain ⟨k', h1, h2, h3⟩ := hF.put
  have he := all2_at hr j h1 hF.at_
  obtain ⟨r1, r2⟩ := keyEq_eq h2 hx he.key
  refine ⟨r1.symm, ?_⟩
  rw [← r1]
  simp [Instr.keyThatStays, r2 9999]

theorem kk_inj {fm : Fm} {φ : Ph} {k : KK} {a b : AV} {x : Value} (ha : kkOk k a = true) (hb : kkOk k b = true) (h1 : VR fm φ Z w a x) (h2 : VR fm φ Z w b x) : a = b := by
  cases k <;> cases a <;> simp [kkOk] at ha <;> cases b <;> simp [kkOk] at hb
  · cases h1; cases h2; rfl
  · cases h1; cases h2; rfl
  · cases h1; cases h2; rfl
theorem flat_inj {fm : Fm} {φ : Ph} : ∀ {ks : List KK} {a b : List AV} {x : List Value}, flatOk ks a = true → flatOk ks b = true → VRs fm φ Z w a x → VRs fm φ Z w b x → a = b
  | _, [], _, _, _, _, h1, h2 => by cases h1; cases h2; rfl
  | [], _ :: _, _, _, h, _, _, _ => by simp [flatOk] at h
  | _ :: _, _ :: _, [], _, _, h, _, _ => by simp [flatOk] at h
  | k :: ks, a :: as, b :: bs, x, ha, hb, h1, h2 => by
    simp only [flatOk, Bool.and_eq_true] at ha hb
    cases h1 with
    | cons p1 q1 => cases h2 with
      | cons p2 q2 => rw [kk_inj ha.1 hb.1 p1 p2, flat_inj ha.2 hb.2 q1 q2]
theorem vr_inj {fm : Fm} {φ : Ph} {kt : KT} {a b : AV} {x : Value} (ha : ktOk kt a = true) (hb : ktOk kt b = true) (h1 : VR fm φ Z w a x) (h2 : VR fm φ Z w b x) : a = b := by
  cases kt with
  | one k => exact kk_inj ha hb h1 h2
  | flat ks =>
    cases a <;> simp only [ktOk, Bool.false_eq_true] at ha
    cases b <;> simp only [ktOk, Bool.false_eq_true] at hb
    obtain ⟨xs, rfl, r1⟩ := agg_inv h1
    obtain ⟨ys, e, r2⟩ := agg_inv h2
    cases e
    rw [flat_inj ha hb r1 r2]
theorem sim_mupd (h : SR cx nt ψ Z s a w) {kt : KT} {m k x : AOpd} (hok : okOp cx o (.mupd kt m k x) = true) (hs : (AOp.mupd kt m k x).sem o.dst s.T s.L s.H = some (tv, L', H')) : OpSim cx ψ Z s a w o tv L' H' := by
  obtain ⟨dst, op', type, pos, after, guard⟩ := o
  have key : ∀ {t : TypeId} {x1 x2 x3 : Operand} {kty e : TypeId}, okOpd cx x1 m = true → okOpd cx x2 k = true → okOpd cx x3 x = true → cx.P.underlying t = some (.map kty e) → okKT cx.P kty kt = true →
      ∃ w' ψ' Z', (Instr.mapUpdate t (a.eval x1) (a.eval x2) (a.eval x3)).run cx.P w = .ok () w' ∧ Goes cx ψ Z s.L s.H w ψ' Z' L' H' w' ∧ tv = .undef := by
    intro t x1 x2 x3 kty e h1 h2 h3 hu h5
    simp only [AOp.sem] at hs
    split at hs
    · rename_i id ky v hm hk hv
      split at hs
      · rename_i es hg
        split at hs
        · rename_i r hko hf
          simp only [Option.some.injEq, Prod.mk.injEq] at hs; obtain ⟨rfl, rfl, rfl⟩ := hs
          obtain ⟨b, e0, ms, clk, es0, p1, p2, p3, p4, p5, p6⟩ := obj_map h.mem hg
          have hmv := map_val (h.opda h1 hm) (show ph ψ id = some (b, e0) from p1)
          have hkv := h.opda h2 hk
          have hvv := h.opda h3 hv
          have hck := checkKey_run (P := cx.P) h5 hko hkv false 9998
          have hf0 := mfind_perm p6 p5 hko hf
          obtain ⟨p7, p8⟩ := mput_perm p6 p5 hko hf v
          rcases findKey_run h5 hko hkv p4.rel hf0 with ⟨rfl, hq⟩ | ⟨u, j, m', rfl, hF, hq⟩
          · refine ⟨_, _, _, ?_, goes_map h.mem hg p1 p2 p3 (ms' := ms.push { key := a.eval x2, val := a.eval x3, born := clk }) (clk' := clk + 1) (es1 := mput ky v es0) ?_ p7 p8 ?_, rfl⟩
            · simp only [Instr.mapUpdate, Sem.run_bind, run_underlying hu, Result.andThen_ok, hmv, run_getMap p3, hck, hq]
              exact run_setMap p3 _
            · rw [mput_none hf0, Array.toList_push]; exact mr_push p4 hkv hvv
            · exact mapGoes_push _ _ _
          · obtain ⟨k', q1, q2, q3⟩ := hF.put
            obtain ⟨r1, r2⟩ := key_stays (P := cx.P) hF p4.rel hkv
            have hat : ms[j]? = some m' := by simpa using hF.at_
            refine ⟨_, _, _, ?_, goes_map h.mem hg p1 p2 p3 (ms' := ms.modify j fun e => { e with key := a.eval x2, val := a.eval x3 }) (clk' := clk) (es1 := mput ky v es0) ?_ p7 p8 ?_, rfl⟩
            · simp only [Instr.mapUpdate, Sem.run_bind, run_underlying hu, Result.andThen_ok, hmv, run_getMap p3, hck, hq, hat, Option.map_some, Option.getD_some, r2]
              exact run_setMap p3 _
            · rw [q3, toList_modify ms j _ hF.at_]
              have hm2 : ({ m' with key := a.eval x2, val := a.eval x3 } : MapEntry) = { m' with val := a.eval x3 } := by rw [← r1]
              rw [hm2]
              exact mr_set p4 q1 hF.at_ hvv
            · exact mapGoes_modify hat _ rfl r1.symm
        · simp at hs
      · simp at hs
    · simp at hs
  simp only [okOp] at hok
  split at hok
  · rename_i t x1 x2 x3
    simp only [Bool.and_eq_true] at hok
    obtain ⟨⟨⟨h1, h2⟩, h3⟩, h4⟩ := hok
    split at h4
    · rename_i kty e hu
      obtain ⟨w', ψ', Z', r1, r2, rfl⟩ := key h1 h2 h3 hu h4
      exact ⟨undef, w', ψ', Z', .inr ⟨by simp only [execOp, Sem.run_bind, r1, Result.andThen_ok, Sem.run_pure], rfl⟩, r2, .tup _ _ rfl (fun i q => by simp at q)⟩
    · simp at h4
  · rename_i t x1 x2 x3
    simp only [Bool.and_eq_true] at hok
    obtain ⟨⟨⟨h1, h2⟩, h3⟩, h4⟩ := hok
    split at h4
    · rename_i kty e hu
      obtain ⟨w', ψ', Z', r1, r2, rfl⟩ := key h1 h2 h3 hu h4
      exact ⟨undef, w', ψ', Z', .inr ⟨by simp only [execOp, Sem.run_bind, r1, Result.andThen_ok, Sem.run_pure], rfl⟩, r2, .tup _ _ rfl (fun i q => by simp at q)⟩
    · simp at h4
  · simp at hok

theorem sim_ins (h : SR cx nt ψ Z s a w) {kt : KT} {m k x : AOpd} (hok : okOp cx o (.ins kt m k x) = true) (hs : (AOp.ins kt m k x).sem o.dst s.T s.L s.H = some (tv, L', H')) : OpSim cx ψ Z s a w o tv L' H' := by
  obtain ⟨dst, op', type, pos, after, guard⟩ := o
  simp only [okOp] at hok
  split at hok
  · rename_i t x1 x2 x3
    simp only [Bool.and_eq_true] at hok
    obtain ⟨⟨⟨h1, h2⟩, h3⟩, h4⟩ := hok
    split at h4
    · rename_i kty e hu
      simp only [AOp.sem] at hs
      split at hs
      · rename_i id ky v hm hk hv
        split at hs
        · rename_i H1 hi
          simp only [Option.some.injEq, Prod.mk.injEq] at hs; obtain ⟨rfl, rfl, rfl⟩ := hs
          unfold insF at hi
          split at hi
          · rename_i es hg
            split at hi
            · rename_i hko hf
              split at hi
              · simp only [Option.some.injEq] at hi; subst hi
                obtain ⟨b, e0, ms, clk, es0, p1, p2, p3, p4, p5, p6⟩ := obj_map h.mem hg
                have hmv := map_val (h.opda h1 hm) (show ph ψ id = some (b, e0) from p1)
                have hkv := h.opda h2 hk
                have hvv := h.opda h3 hv
                have hck := checkKey_run (P := cx.P) h4 hko hkv false 9998
                have hf0 := mfind_perm p6 p5 hko hf
                obtain ⟨p7, p8⟩ := mput_perm p6 p5 hko hf v
                rw [mput_none hf, mput_none hf0] at p7
                rw [mput_none hf] at p8
                rcases findKey_run h4 hko hkv p4.rel hf0 with ⟨_, hq⟩ | ⟨u, j, m', hvu, _⟩
                · have g := goes_map h.mem hg p1 p2 p3 (ms' := ms.push { key := a.eval x2, val := a.eval x3, born := clk }) (clk' := clk + 1) (by rw [Array.toList_push]; exact mr_push p4 hkv hvv) (p7.trans (mins_perm ky v es).symm) (p8.perm (mins_perm ky v es)) (mapGoes_push _ _ _)
                  refine ⟨undef, _, _, _, .inr ⟨?_, rfl⟩, g, .tup _ _ rfl (fun i q => by simp at q)⟩
                  simp only [execOp, Instr.mapUpdate, Sem.run_bind, run_underlying hu, Result.andThen_ok, hmv, run_getMap p3, hck, hq]
                  rw [run_setMap p3]; rfl
                · simp at hvu
              · simp at hi
            · simp at hi
          · simp at hi
        · simp at hs
      · simp at hs
    · simp at h4
  · simp at hok

theorem get_put (H : Heap) (id : Nat) (x : AObj) : (H.put id x).get id = some x := by
  simp [Heap.put, Heap.get, oget_oset]

theorem mput_set {key : AV} {es : List (AV × AV)} {j : Nat} {k' u : AV} (hq : keyEq key k' = some true) (hj : ∃ y, es[j]? = some (k', y)) (hpre : ∀ i, i < j → ∃ p, es[i]? = some p ∧ keyEq key p.1 ≠ some true) (x : AV) : mput key x (es.set j (k', u)) = (es.set j (k', u)).set j (k', x) := by
  induction es generalizing j with
  | nil => obtain ⟨y, hy⟩ := hj; simp at hy
  | cons p es ih =>
    cases j with
    | zero => simp [mput, hq]
    | succ j =>
      obtain ⟨p0, hp0, hne⟩ := hpre 0 (by omega)
      simp at hp0; subst hp0
      obtain ⟨k0, v0⟩ := p
      simp only [List.set_cons_succ, mput]
      rw [if_neg hne]
      rw [ih (by simpa using hj) (fun i hi => by have := hpre (i + 1) (by omega); simpa using this)]
theorem mput_snoc {key : AV} {es : List (AV × AV)} {u : AV} (hq : keyEq key key = some true) (hf : mfind key es = some none) (x : AV) : mput key x (es ++ [(key, u)]) = (es ++ [(key, u)]).set es.length (key, x) := by
  induction es with
  | nil => simp [mput, hq]
  | cons p es ih =>
    obtain ⟨k0, v0⟩ := p
    rcases mfind_cons hf with ⟨_, h2⟩ | ⟨h1, h2⟩
    · simp at h2
    · simp only [List.cons_append, mput, h1, List.length_cons, List.set_cons_succ]
      simp [ih h2]
theorem eq1_refl {k : KK} {a : AV} (h : kkOk k a = true) : eq1 a a = some true := by
  cases k <;> cases a <;> simp [kkOk] at h <;> simp [eq1]
theorem keyEq_refl {kt : KT} {key : AV} (h : ktOk kt key = true) : keyEq key key = some true := by
  cases kt with
  | one k => cases key <;> simp only [ktOk, keyEq] at h ⊢ <;> first | exact eq1_refl h | (cases k <;> simp [kkOk] at h)
  | flat ks =>
    cases key <;> simp [ktOk] at h
    rename_i cs
    simp only [keyEq]
    induction cs generalizing ks with
    | nil => rfl
    | cons a cs ih =>
      cases ks with
      | nil => simp [flatOk] at h
      | cons k ks =>
        simp only [flatOk, Bool.and_eq_true] at h
        simp only [eqs, eq1_refl h.1, ih ks h.2]; rfl

theorem all2_len {α β : Type} {R : α → β → Prop} {l : List α} {m : List β} (h : All2 R l m) : l.length = m.length := by
  induction h with
  | nil => rfl
  | cons _ _ ih => simp [ih]

theorem sim_ment (h : SR cx nt ψ Z s a w) {kt : KT} {z : AV} {m k : AOpd} (hok : okOp cx o (.ment kt z m k) = true) (hs : (AOp.ment kt z m k).sem o.dst s.T s.L s.H = some (tv, L', H')) : OpSim cx ψ Z s a w o tv L' H' := by
  obtain ⟨dst, op', type, pos, after, guard⟩ := o
  simp only [okOp] at hok
  split at hok
  · rename_i t x1 x2
    simp only [Bool.and_eq_true] at hok
    obtain ⟨⟨h1, h2⟩, h4⟩ := hok
    split at h4
    · rename_i kty e hu
      simp only [Bool.and_eq_true] at h4
      obtain ⟨h5, h6⟩ := h4
      obtain ⟨zv, hz1, hz2⟩ := okZ_run (Z := Z) (w := w) h6 (fm := cx.fm) (φ := ph ψ)
      simp only [AOp.sem] at hs
      split at hs
      · rename_i id ky hm hk
        split at hs
        · rename_i es hg
          obtain ⟨b, e0, ms, clk, es0, p1, p2, p3, p4, p5, p6⟩ := obj_map h.mem hg
          have hmv := map_val (h.opda h1 hm) (show ph ψ id = some (b, e0) from p1)
          have hkv := h.opda h2 hk
          have hrun : ∀ {v : Value} {w' : World}, (Instr.mapEntry t (a.eval x1) (a.eval x2)).run cx.P w = .ok v w' → (execOp a.eval ⟨dst, .mapEntry t x1 x2, type, pos, after, guard⟩).run cx.P w = .ok (.value v) w' := fun {v w'} hr => by
            simp only [execOp, Sem.run_bind, hr, Result.andThen_ok, Sem.run_pure]
          split at hs
          · rename_i v hko hf
            simp only [Option.some.injEq, Prod.mk.injEq] at hs; obtain ⟨rfl, rfl, rfl⟩ := hs
            have hck := checkKey_run (P := cx.P) h5 hko hkv false 9998
            have hf0 := mfind_perm p6 p5 hko hf
            obtain ⟨p7, p8⟩ := mput_perm p6 p5 hko hf v
            rcases findKey_run h5 hko hkv p4.rel hf0 with ⟨h0, _⟩ | ⟨u, j, m', hvu, hF, hq⟩
            · simp at h0
            · simp at hvu; subst hvu
              obtain ⟨k', q1, q2, q3⟩ := hF.put
              obtain ⟨r1, r2⟩ := key_stays (P := cx.P) hF p4.rel hkv
              have hat : ms[j]? = some m' := by simpa using hF.at_
              have hnew : MR cx.fm (ph ψ) Z w (mput ky v es0) (ms.modify j fun e => { e with key := a.eval x2 }).toList clk := by
                rw [q3, toList_modify ms j _ hF.at_]
                have hm2 : ({ m' with key := a.eval x2 } : MapEntry) = { m' with val := m'.val } := by rw [← r1]
                rw [hm2]
                exact mr_set p4 q1 hF.at_ hF.val
              have g := goes_map h.mem hg p1 p2 p3 (ms' := ms.modify j fun e => { e with key := a.eval x2 }) (clk' := clk) hnew p7 p8 (mapGoes_modify hat _ rfl r1.symm)
              refine ⟨.tuple #[m'.val, .int .i64 m'.born], _, _, _, .inl (hrun ?_), g, ?_⟩
              · simp only [Instr.mapEntry, Sem.run_bind, run_underlying hu, Result.andThen_ok, hmv, run_getMap p3, hck, hq, hat, Option.map_some, Option.getD_some, r2]
                rw [run_setMap p3]; rfl
              · refine ⟨by simp [Heap.put], m'.born, by simp, fun _ => ⟨_, _, _, _, j, get_put _ _ _, p1, by rw [setB_get, if_pos rfl, if_pos (lt_of_heap p3)], ⟨{ m' with key := a.eval x2 }, ?_, rfl, VR.ext g.ext hkv⟩, _, mput_has p6 hko hf _⟩⟩
                rw [Array.getElem?_modify]; simp [hat]
          · rename_i hko hf
            simp only [Option.some.injEq, Prod.mk.injEq] at hs; obtain ⟨rfl, rfl, rfl⟩ := hs
            have hck := checkKey_run (P := cx.P) h5 hko hkv false 9998
            have hf0 := mfind_perm p6 p5 hko hf
            obtain ⟨p7, p8⟩ := mput_perm p6 p5 hko hf z
            rcases findKey_run h5 hko hkv p4.rel hf0 with ⟨_, hq⟩ | ⟨u, j, m', hvu, _⟩
            · have hnew : MR cx.fm (ph ψ) Z w (mput ky z es0) (ms.push { key := a.eval x2, val := zv, born := clk }).toList (clk + 1) := by
                rw [mput_none hf0, Array.toList_push]; exact mr_push p4 hkv hz2
              have g := goes_map h.mem hg p1 p2 p3 (ms' := ms.push { key := a.eval x2, val := zv, born := clk }) (clk' := clk + 1) hnew p7 p8 (mapGoes_push _ _ _)
              have hlen := all2_len p4.rel
              refine ⟨.tuple #[zv, .int .i64 clk], _, _, _, .inl (hrun ?_), g, ?_⟩
              · simp only [Instr.mapEntry, Sem.run_bind, run_underlying hu, Result.andThen_ok, hmv, run_getMap p3, hck, hq, hz1]
                rw [run_setMap p3]; rfl
              · refine ⟨by simp [Heap.put], clk, by simp, fun _ => ⟨_, _, _, _, es0.length, get_put _ _ _, p1, by rw [setB_get, if_pos rfl, if_pos (lt_of_heap p3)], ⟨{ key := a.eval x2, val := zv, born := clk }, ?_, rfl, VR.ext g.ext hkv⟩, _, mput_has p6 hko hf _⟩⟩
                simp at hlen; rw [hlen]; simp
            · simp at hvu
          · simp at hs
        · simp at hs
      · simp at hs
    · simp at h4
  · simp at hok

theorem sim_estore (h : SR cx nt ψ Z s a w) {m st x : AOpd} (hok : okOp cx o (.estore m st x) = true) (hs : (AOp.estore m st x).sem o.dst s.T s.L s.H = some (tv, L', H')) : OpSim cx ψ Z s a w o tv L' H' := by
  obtain ⟨dst, op', type, pos, after, guard⟩ := o
  simp only [okOp] at hok
  split at hok
  · rename_i t x1 x2 x3
    simp only [Bool.and_eq_true] at hok
    obtain ⟨⟨h1, h2⟩, h3⟩ := hok
    simp only [AOp.sem] at hs
    split at hs
    · rename_i id id' ky ver v hm hst hv
      split at hs
      · rename_i es hg
        split at hs
        · rename_i hb
          simp only [Bool.and_eq_true] at hb
          have e1 := Nat.eq_of_beq_eq_true hb.1
          have e2 := Nat.eq_of_beq_eq_true hb.2
          subst e1
          simp only [Option.some.injEq, Prod.mk.injEq] at hs; obtain ⟨rfl, rfl, rfl⟩ := hs
          have hsv := h.opd h2
          rw [hst] at hsv
          obtain ⟨_, n, hn, hst'⟩ := hsv
          simp only [if_true] at hn
          obtain ⟨es', p, ms, clk, i, q1, q2, q3, ⟨m', q4, q5, q7⟩, v0, q6⟩ := hst' e2
          rw [hg] at q1; simp at q1; subst q1
          obtain ⟨b, e0, ms2, clk2, es0, p1, p2, p3, p4, p5, p6⟩ := obj_map h.mem hg
          rw [q2] at p1; simp at p1; subst p1
          simp only at q3
          rw [q3] at p3; simp at p3; obtain ⟨rfl, rfl⟩ := p3
          have hmv := map_val (h.opda h1 hm) (show ph ψ id = some (b, e0) from q2)
          have hvv := h.opda h3 hv
          obtain ⟨kt, hkd⟩ := p6
          have hko : ktOk kt ky = true := hkd.ok _ q6
          obtain ⟨r, hf⟩ : ∃ r, mfind ky es = some r := by
            rcases mfind_cases hko hkd with ⟨v, q, _⟩ | ⟨q, _⟩
            · exact ⟨_, q⟩
            · exact ⟨_, q⟩
          obtain ⟨p7, p8⟩ := mput_perm ⟨kt, hkd⟩ p5 hko hf v
          have hat : ms.toList[i]? = some m' := by simpa using q4
          have hes : ∃ y, es0[i]? = some (ky, y) := by
            have hlen := all2_len p4.rel
            have hi : i < es0.length := by rw [hlen]; exact (List.getElem?_eq_some_iff.1 hat).1
            have hq : es0[i]? = some es0[i] := List.getElem?_eq_getElem hi
            have he := all2_at p4.rel i hq hat
            have := vr_inj hko (hkd.ok _ (p5.mem_iff.1 (List.getElem_mem hi))) q7 he.key
            exact ⟨es0[i].2, by rw [hq, this]⟩
          obtain ⟨y, hy⟩ := hes
          have hnew : MR cx.fm (ph ψ) Z w (mput ky v es0) (ms.modify i fun e => { e with val := a.eval x3 }).toList clk := by
            rw [mput_at hko v (hkd.perm p5) hy, toList_modify ms i _ hat]
            exact mr_set p4 hy hat hvv
          have g := goes_map h.mem hg q2 p2 q3 (ms' := ms.modify i fun e => { e with val := a.eval x3 }) (clk' := clk) hnew p7 p8 (mapGoes_modify q4 _ rfl rfl)
          refine ⟨undef, _, _, _, .inr ⟨?_, rfl⟩, g, .tup _ _ rfl (fun i q => by simp at q)⟩
          have hidx : ms.findIdx? (fun e => (e.born : Int) == n) = some i := by
            have htl : ms.findIdx? (fun e => (e.born : Int) == n) = ms.toList.findIdx? (fun e => (e.born : Int) == n) := by cases ms; simp
            rw [htl, List.findIdx?_eq_some_iff_getElem]
            obtain ⟨hi, he⟩ := List.getElem?_eq_some_iff.1 hat
            refine ⟨hi, by rw [he]; simpa using q5, fun j hj => ?_⟩
            simp only [beq_iff_eq, Bool.not_eq_true]
            intro hc
            have hnd := p4.nodup
            have hb2 : (ms.toList[j]'(by omega)).born = m'.born := by
              have : ((ms.toList[j]'(by omega)).born : Int) = m'.born := by simpa using hc.trans q5.symm
              exact Int.ofNat.inj this
            have hpw := List.pairwise_iff_getElem.1 hnd j i (by simp; simp at hi; omega) (by simpa using hi) hj
            apply hpw
            simp only [List.getElem_map]
            rw [hb2, he]
          simp only [execOp, Instr.entryStore, Sem.run_bind, hmv, hn, run_getMap q3, Result.andThen_ok, asInt, asIntOf, Sem.run_pure, hidx]
          rw [run_setMap q3]; rfl
        · simp at hs
      · simp at hs
    · simp at hs
  · simp at hok

/-! ### going through a map -/
theorem run_getObj {P : Program} {b : Nat} {q1 : Option Nat} {q2 : Nat} {q3 : Array Nat} {q4 : Nat} (h : w.heap[b]? = some (.mapIter q1 q2 q3 q4)) : (getObj b).run P w = .ok (.mapIter q1 q2 q3 q4) w := by
  simp [getObj, Sem.run, h]
theorem run_setObj {P : Program} {b : Nat} {q1 : Option Nat} {q2 : Nat} {q3 : Array Nat} {q4 : Nat} (h : w.heap[b]? = some (.mapIter q1 q2 q3 q4)) (x : Obj) : (setObj b x).run P w = .ok () (setB w b x) := by
  simp [setObj, Sem.run, h, setB]
theorem ptr_val {fm : Fm} {φ : Ph} {i off b e : Nat} {v : Value} (h : VR fm φ Z w (.ptr i off) v) (hp : φ i = some (b, e)) : v = .pointer (some ⟨b, e + off, none⟩) := by
  cases h with
  | ptr _ _ b' e' hh => rw [hp] at hh; simp at hh; rw [hh.1, hh.2]
theorem goes_iter (m : MemR cx ψ Z L H w) {id b e : Nat} {x x' : AObj} {ob ob' : Obj} (hg : H.get id = some x) (hp : ψ (.inl id) = some (b, e)) (hz : Z b = 0) (hb : w.heap[b]? = some ob) (hn : ∀ ms clk, ob ≠ .map ms clk) (hrow : rowSize w b = none)
    (hr : ObjR cx.fm (ph ψ) Z (setB w b ob') x' (b, e)) : Goes cx ψ Z L H w ψ Z L (H.put id x') (setB w b ob') := by
  have ex : Ext (ph ψ) (ph ψ) Z Z w (setB w b ob') := ext_setM hb hrow hz (fun ms clk e0 => absurd e0 (hn ms clk))
  obtain ⟨i1, f1⟩ := inv_set m.inv (o := .inl id) (x := x) (x' := x') (p := (b, e)) (by simp [look, hg]) hp ex (setB_size _ _ _) (fun c hc => by rw [setB_get, if_neg hc]) hr
  rw [← look_put] at i1 f1
  exact ⟨⟨i1, m.freshH, m.freshL, m.gl.ext ex⟩, ex, fun _ _ h => h, f1, .inr (by simp [Heap.put]), fun _ _ _ => rfl⟩

theorem sim_range {P : Program} {t k el : TypeId} (hu : P.underlying t = some (.map k el)) (m : MemR cx ψ Z L H w) {x : AV} {xv : Value} (hv : VR cx.fm (ph ψ) Z w x xv) {r : AV} {H1 : Heap} (hr : rangeF H x = some (r, H1)) :
    ∃ val w' ψ', (Instr.range t xv).run P w = .ok val w' ∧ Goes cx ψ Z L H w ψ' Z L H1 w' ∧ VR cx.fm (ph ψ') Z w' r val ∧ (∀ q, ψ' (.inr q) = ψ (.inr q)) := by
  unfold rangeF at hr
  split at hr
  · rename_i id
    split at hr
    · rename_i es hg
      simp only [Option.some.injEq, Prod.mk.injEq] at hr
      obtain ⟨rfl, rfl⟩ := hr
      obtain ⟨b, e, ms, clk, es0, p1, p2, p3, p4, p5, p6⟩ := obj_map m hg
      have hx := map_val hv (show ph ψ id = some (b, e) from p1)
      subst hx
      have hlen := all2_len p4.rel
      have hpl := p5.length_eq
      have hlt := lt_of_heap p3
      have hid : id ≠ H.next := by
        intro hc
        have := m.freshH id (by omega)
        rw [p1] at this; simp at this
      have hro : ObjR cx.fm (ph (ups ψ (.inl H.next) (w.heap.size, 0))) Z (addB w (.mapIter (some b) clk #[] clk)) (.iter (some id) [] es.length) (w.heap.size, 0) := by
        refine ⟨z_new m, rfl, b, e, clk, #[], clk, ms, clk, by rw [addB_get, if_pos rfl], ?_, by rw [addB_get, if_neg (by omega)]; exact p3, ⟨by simp at hlen; omega, fun i mm hi hm => ?_, .nil, Nat.le_refl _, fun _ => rfl⟩⟩
        · show ups ψ (.inl H.next) (w.heap.size, 0) (.inl id) = _
          simp [ups, hid, p1]
        · exact p4.born mm (by rw [Array.mem_toList_iff]; exact Array.mem_of_getElem? hm)
      refine ⟨.pointer (some ⟨w.heap.size, 0, none⟩), _, _, ?_, goes_addH m hro, .ptr _ _ _ 0 (by simp [ph, ups]), fun q => by simp [ups]⟩
      simp only [Instr.range, Sem.run_bind, run_underlying hu, Result.andThen_ok, run_getMap p3, Sem.run_pure]
      simp [run_newObj, addB]
    · simp at hr
  · simp only [Option.some.injEq, Prod.mk.injEq] at hr
    obtain ⟨rfl, rfl⟩ := hr
    have hx : xv = .map none := by cases hv; rfl
    subst hx
    have hro : ObjR cx.fm (ph (ups ψ (.inl H.next) (w.heap.size, 0))) Z (addB w (.mapIter none 0 #[] 0)) (.iter none [] 0) (w.heap.size, 0) :=
      ⟨z_new m, rfl, 0, #[], 0, by rw [addB_get, if_pos rfl]⟩
    refine ⟨.pointer (some ⟨w.heap.size, 0, none⟩), _, _, ?_, goes_addH m hro, .ptr _ _ _ 0 (by simp [ph, ups]), fun q => by simp [ups]⟩
    simp only [Instr.range, Sem.run_bind, run_underlying hu, Result.andThen_ok, Sem.run_pure]
    simp [run_newObj, addB]
  · simp at hr

theorem all2_left {α β : Type} {R : α → β → Prop} {l : List α} {r : List β} (h : All2 R l r) {a : α} (ha : a ∈ l) : ∃ b ∈ r, R a b := by
  induction h with
  | nil => simp at ha
  | cons p _ ih =>
    rcases List.mem_cons.1 ha with rfl | ha
    · exact ⟨_, by simp, p⟩
    · obtain ⟨b, h1, h2⟩ := ih ha; exact ⟨b, by simp [h1], h2⟩
theorem all2_right {α β : Type} {R : α → β → Prop} {l : List α} {r : List β} (h : All2 R l r) {b : β} (hb : b ∈ r) : ∃ a ∈ l, R a b := by
  induction h with
  | nil => simp at hb
  | cons p _ ih =>
    rcases List.mem_cons.1 hb with rfl | hb
    · exact ⟨_, by simp, p⟩
    · obtain ⟨b, h1, h2⟩ := ih hb; exact ⟨b, by simp [h1], h2⟩
theorem all2_index {α β : Type} {R : α → β → Prop} {l : List α} {r : List β} (h : All2 R l r) : ∀ {j : Nat} {b : β}, r[j]? = some b → ∃ a, l[j]? = some a ∧ R a b := by
  induction h with
  | nil => intro j b hb; simp at hb
  | cons p _ ih =>
    intro j b hb
    cases j with
    | zero => simp at hb; subst hb; exact ⟨_, rfl, p⟩
    | succ j => exact ih (by simpa using hb)
theorem all2_filter {α β : Type} {R : α → β → Prop} (f : α → Bool) (g : β → Bool) {l : List α} {r : List β} (h : All2 R l r) (hfg : ∀ (j : Nat) (a : α) (b : β), l[j]? = some a → r[j]? = some b → f a = g b) : All2 R (l.filter f) (r.filter g) := by
  induction h with
  | nil => exact .nil
  | cons p h ih =>
    have h0 := hfg 0 _ _ rfl rfl
    have ih := ih (fun j a b ha hb => hfg (j + 1) a b (by simpa using ha) (by simpa using hb))
    simp only [List.filter_cons, h0]
    split
    · exact .cons p ih
    · exact ih
theorem nodup_index {α : Type} {l : List α} (h : l.Nodup) {i j : Nat} {a : α} (hi : l[i]? = some a) (hj : l[j]? = some a) : i = j := by
  obtain ⟨h1, h2⟩ := List.getElem?_eq_some_iff.1 hi
  obtain ⟨h3, h4⟩ := List.getElem?_eq_some_iff.1 hj
  have hp := List.pairwise_iff_getElem.1 h
  rcases Nat.lt_trichotomy i j with hc | hc | hc
  · exact absurd (h2.trans h4.symm) (hp i j h1 h3 hc)
  · exact hc
  · exact absurd (h4.trans h2.symm) (hp j i h3 h1 hc)

/-- What is still to come, in both. -/
theorem unseen_rel {fm : Fm} {φ : Ph} {es es0 : List (AV × AV)} {ms : Array MapEntry} {clk : Nat} (hr : MR fm φ Z w es0 ms.toList clk) (hp : es0.Perm es) (hkd : KD es) {seen : List AV} {cnt since : Nat} {sn : Array Nat} {last : Nat} (hi : IterR fm φ Z w seen cnt since sn last ms clk) (hs : seen.all (fun k => (mfind k es).isSome) = true) :
    All2 (ER fm φ Z w) (unseen seen es0) (ms.toList.filter fun m => !sn.contains m.born) := by
  refine all2_filter _ _ hr.rel (fun j e mm he hm => ?_)
  congr 1
  have hrel := all2_at hr.rel j he hm
  have hmem : e ∈ es := hp.mem_iff.1 (List.mem_of_getElem? he)
  have shape : ∀ k ∈ seen, ∃ kt, KDk kt es ∧ ktOk kt k = true := by
    intro k hk
    obtain ⟨b, _, i, m', _, _, _, _, kt', hkt⟩ := all2_left hi.hseen hk
    have := List.all_eq_true.1 hs k hk
    obtain ⟨r, hr⟩ := Option.isSome_iff_exists.1 this
    exact KD.shape hkd hkt hr
  have at_i : ∀ k ∈ seen, ∀ (i : Nat) (m' : MapEntry), ms[i]? = some m' → VR fm φ Z w k m'.key → ∃ e' : AV × AV, es0[i]? = some e' ∧ e'.1 = k := by
    intro k hk i m' h1 h2
    obtain ⟨kt, hd, hok⟩ := shape k hk
    obtain ⟨e', h3, h4⟩ := all2_index hr.rel (show ms.toList[i]? = some m' by simpa using h1)
    exact ⟨e', h3, vr_inj (hd.ok e' (hp.mem_iff.1 (List.mem_of_getElem? h3))) hok h4.key h2⟩
  rw [Bool.eq_iff_iff, List.any_eq_true, Array.contains_iff_mem]
  constructor
  · rintro ⟨k, hk, hq⟩
    obtain ⟨b, hb, i, m', h1, h2, h3, h4, _⟩ := all2_left hi.hseen hk
    obtain ⟨kt, hd, hok⟩ := shape k hk
    obtain ⟨e', h5, h6⟩ := at_i k hk i m' h2 h4
    have hke : k = e.1 := by
      rcases keyEq_iff hok (hd.ok e hmem) with ⟨_, q⟩ | ⟨q, _⟩
      · exact q
      · rw [q] at hq; simp at hq
    have hnd : (es0.map (·.1)).Nodup := (hd.perm hp).nd
    have hij : i = j := nodup_index hnd (a := k) (by rw [List.getElem?_map, h5]; simp [h6]) (by rw [List.getElem?_map, he]; simp [hke])
    subst hij
    have h2' : ms.toList[i]? = some m' := by simpa using h2
    rw [hm] at h2'
    simp only [Option.some.injEq] at h2'
    rw [h2', h3]
    simpa using hb
  · intro hb
    obtain ⟨k, hk, i, m', h1, h2, h3, h4, _⟩ := all2_right hi.hseen (show mm.born ∈ sn.toList.reverse by simpa using hb)
    obtain ⟨kt, hd, hok⟩ := shape k hk
    obtain ⟨e', h5, h6⟩ := at_i k hk i m' h2 h4
    have hij : i = j := nodup_index hr.nodup (a := mm.born) (by rw [List.getElem?_map]; simp [h2, h3]) (by rw [List.getElem?_map, hm]; rfl)
    subst hij
    rw [he] at h5
    simp only [Option.some.injEq] at h5
    subst h5
    refine ⟨k, hk, ?_⟩
    rw [h6, keyEq_refl hok]

theorem pick_at : ∀ {l : List (AV × AV)} {c : Nat} {e : AV × AV} (_ : l[c]? = some e), ∃ used, ∀ η, pickE l (used ++ η) = some (e, η)
  | [], c, e, h => by simp at h
  | [x], c, e, h => by
    have hc := (List.getElem?_eq_some_iff.1 h).1
    have : c = 0 := by simp at hc; exact hc
    subst this
    simp at h; subst h
    exact ⟨[], fun η => rfl⟩
  | x :: y :: r, 0, e, h => by
    simp at h; subst h
    exact ⟨[0], fun η => rfl⟩
  | x :: y :: r, c + 1, e, h => by
    obtain ⟨used, hu⟩ := pick_at (l := y :: r) (c := c) (e := e) (by simpa using h)
    exact ⟨1 :: used, fun η => by simp only [List.cons_append, pickE]; exact hu η⟩

theorem sim_next {P : Program} {ty : TypeId} (m : MemR cx ψ Z L H w) {x : AV} {xv : Value} (hv : VR cx.fm (ph ψ) Z w x xv) (hs : ∀ om, ∃ q, nextF H x om = some q) :
    ∃ used r H1 val w', (∀ η, nextF H x (used ++ η) = some (r, H1, η)) ∧ (Instr.next xv false ty).run P w = .ok val w' ∧ Goes cx ψ Z L H w ψ Z L H1 w' ∧ VR cx.fm (ph ψ) Z w' r val := by
  obtain ⟨q0, hq0⟩ := hs []
  unfold nextF at hq0
  have fls : ∀ w', VR cx.fm (ph ψ) Z w' (.tup [.bool false]) (.tuple #[.bool false]) := fun w' => .tup _ _ rfl (fun i h h' => by
    have : i = 0 := by simp at h; exact h
    subst this; exact .bool false)
  split at hq0
  · rename_i i
    split at hq0
    · rename_i seen cnt hg
      obtain ⟨⟨b, e⟩, hp, hz, he, a1, a2, a3, hb⟩ := m.inv.obj (.inl i) _ (by simp only [look]; exact hg)
      simp only at he hb
      subst he
      have hx := ptr_val hv (show ph ψ i = some (b, 0) from hp)
      subst hx
      refine ⟨[], .tup [.bool false], H, .tuple #[.bool false], w, fun η => by simp [nextF, hg], ?_, Goes.refl m, fls w⟩
      simp [Instr.next, run_getObj hb]
    · rename_i mid seen cnt hg
      split at hq0
      · rename_i es hgm
        split at hq0
        · rename_i hck
          simp only [Bool.and_eq_true] at hck
          have hcnt := Nat.eq_of_beq_eq_true hck.1
          obtain ⟨⟨b, e⟩, hp, hz, he, b0, e0, since, sn, last, ms, clk, hb, hp0, hb0, hit⟩ := m.inv.obj (.inl i) _ (by simp only [look]; exact hg)
          simp only at he hb hz
          subst he
          have hx := ptr_val hv (show ph ψ i = some (b, 0) from hp)
          subst hx
          obtain ⟨b1, e1, ms1, clk1, es0, p1, p2, p3, p4, p5, p6⟩ := obj_map m hgm
          have hp0' : ψ (.inl mid) = some (b0, e0) := hp0
          rw [hp0'] at p1
          simp only [Option.some.injEq, Prod.mk.injEq] at p1
          obtain ⟨rfl, rfl⟩ := p1
          rw [hb0] at p3
          simp only [Option.some.injEq, Obj.map.injEq] at p3
          obtain ⟨rfl, rfl⟩ := p3
          have hlen := all2_len p4.rel
          have hpl := p5.length_eq
          have hsz : ms.size = cnt := by simp at hlen; omega
          have hlast := hit.hlast hsz
          subst hlast
          have hrel := unseen_rel p4 p5 p6 hit hck.2
          have hperm : (unseen seen es0).Perm (unseen seen es) := p5.filter _
          have hbornlt : ∀ mm ∈ ms.toList, mm.born < since := by
            intro mm hmm
            obtain ⟨j, hj, he⟩ := List.getElem_of_mem hmm
            exact hit.hborn j mm (by simp at hj; omega) (by rw [← he]; simp at hj; simp [hj])
          have c1 : (!sn.isEmpty && !ms.isEmpty && ms.all (fun mm => decide (mm.born ≥ last))) = false := by
            cases hem : ms.isEmpty with
            | true => simp
            | false =>
              have h0 : 0 < ms.size := by
                rcases Nat.eq_zero_or_pos ms.size with h | h
                · have : ms = #[] := Array.eq_empty_of_size_eq_zero h
                  rw [this] at hem; simp at hem
                · exact h
              have : ms.all (fun mm => decide (mm.born ≥ last)) = false := by
                rw [Array.all_eq_false]
                refine ⟨0, h0, ?_⟩
                have := p4.born ms[0] (by simp)
                simp only [decide_eq_true_eq]; omega
              simp [this]
          generalize hleft : ms.filter (fun mm => !sn.contains mm.born) = left
          have hleftL : ms.toList.filter (fun mm => !sn.contains mm.born) = left.toList := by rw [← hleft, Array.toList_filter]
          rw [hleftL] at hrel
          have hsub : ∀ mm ∈ left.toList, mm ∈ ms.toList := by
            intro mm hmm; rw [← hleftL] at hmm; exact (List.mem_filter.1 hmm).1
          have hold : left.filter (fun mm => decide (mm.born < since)) = left := by
            apply Array.ext'
            rw [Array.toList_filter, List.filter_eq_self]
            intro mm hmm
            simpa using hbornlt mm (hsub mm hmm)
          have hnew : left.filter (fun mm => decide (mm.born ≥ since)) = #[] := by
            apply Array.ext'
            rw [Array.toList_filter]
            show _ = []
            rw [List.filter_eq_nil_iff]
            intro mm hmm
            have := hbornlt mm (hsub mm hmm)
            simp only [decide_eq_true_eq]; omega
          have hrun : ∀ (k : Nat) (w1 : World) , (choose (.mapNext ((if left.isEmpty then #[none] else #[]) ++ left.map some).size)).run P w = .ok k w1 →
              (Instr.next (.pointer (some ⟨b, 0, none⟩)) false ty).run P w = ((match ((if left.isEmpty then #[none] else #[]) ++ left.map some)[k]? with
                | some (some e) => do
                  setObj b (.mapIter (some b0) since (sn.push e.born) last)
                  pure (.tuple #[.bool true, e.key, e.val])
                | some none => pure (.tuple #[.bool false])
                | none => stuck "Next: no such candidate" : Sem Value).run P w1) := by
            intro k w1 hch
            simp only [Instr.next, Sem.run_bind, run_getObj hb, Result.andThen_ok, run_getMap hb0, c1, Bool.false_eq_true, if_false, hleft, hold, hnew, Array.append_empty, hch, Sem.run_pure]
            split <;> (rename_i hq; rw [hq])
          cases hul : left.toList with
          | nil =>
            have hle : left = #[] := Array.ext' hul
            rw [hul] at hrel
            have hu0 : unseen seen es0 = [] := by have := all2_len hrel; simpa using this
            have hu : unseen seen es = [] := by rw [hu0] at hperm; exact hperm.nil_eq.symm
            refine ⟨[], .tup [.bool false], H, .tuple #[.bool false], w, fun η => by simp only [nextF, hg, hgm, hck.1, hck.2, Bool.and_self, if_true, hu, List.nil_append], ?_, Goes.refl m, fls w⟩
            rw [hrun 0 w (by subst hle; simp [run_choose, Question.forced])]
            subst hle
            simp
          | cons mm0 rest =>
            have hne : left.isEmpty = false := by
              cases hh : left.isEmpty with
              | false => rfl
              | true => simp at hh; rw [hh] at hul; simp at hul
            have hlpos : 0 < left.size := by
              have := congrArg List.length hul
              simp at this; omega
            obtain ⟨k, w1, hk, hch, hw1⟩ : ∃ k w1, k < left.size ∧ (choose (.mapNext ((if left.isEmpty then #[none] else #[]) ++ left.map some).size)).run P w = .ok k w1 ∧ (w1 = w ∨ w1 = { w with drawn := w.drawn + 1 }) := by
              simp only [hne, Bool.false_eq_true, if_false, Array.empty_append, Array.size_map]
              rw [run_choose]
              by_cases hf : (Question.mapNext left.size).forced = true
              · exact ⟨0, w, hlpos, by rw [if_pos hf], .inl rfl⟩
              · exact ⟨_, _, Nat.mod_lt _ hlpos, by rw [if_neg hf]; rfl, .inr rfl⟩
            have hcand : ((if left.isEmpty then #[none] else #[]) ++ left.map some)[k]? = some (some left[k]) := by
              simp [hne, hk]
            have hr1 := hrun k w1 hch
            rw [hcand] at hr1
            obtain ⟨ee, he1, he2⟩ := all2_index hrel (j := k) (b := left[k]) (by simp [hk])
            have hemem : ee ∈ unseen seen es := hperm.mem_iff.1 (List.mem_of_getElem? he1)
            obtain ⟨c, hc, hce⟩ := List.getElem_of_mem hemem
            obtain ⟨used, hused⟩ := pick_at (l := unseen seen es) (c := c) (e := ee) (by rw [List.getElem?_eq_getElem hc, hce])
            have g1 : Goes cx ψ Z L H w ψ Z L H w1 := by
              rcases hw1 with rfl | rfl
              · exact Goes.refl m
              · exact goes_drew m
            have hb' : w1.heap[b]? = some (.mapIter (some b0) since sn last) := by rcases hw1 with rfl | rfl <;> exact hb
            have hb0' : w1.heap[b0]? = some (.map ms last) := by rcases hw1 with rfl | rfl <;> exact hb0
            have hbb : b0 ≠ b := by
              intro hc; subst hc; rw [hb] at hb0; simp at hb0
            obtain ⟨j, hj, hjm⟩ := List.getElem_of_mem (hsub left[k] (by simp))
            have hj' : j < ms.size := by simpa using hj
            have hjm' : ms[j]? = some left[k] := by rw [Array.getElem?_eq_getElem hj']; simpa using hjm
            have hee : ee ∈ es := (List.mem_filter.1 hemem).1
            obtain ⟨kt, hkdk⟩ := p6
            have ex2 : Ext (ph ψ) (ph ψ) Z Z w1 (setB w1 b (.mapIter (some b0) since (sn.push left[k].born) last)) := ext_setM hb' (by simp [rowSize, hb']) hz (fun _ _ e0 => by cases e0)
            have hro : ObjR cx.fm (ph ψ) Z (setB w1 b (.mapIter (some b0) since (sn.push left[k].born) last)) (.iter (some mid) (ee.1 :: seen) cnt) (b, 0) := by
              refine ⟨hz, rfl, b0, e0, since, sn.push left[k].born, last, ms, last, by rw [setB_get, if_pos rfl, if_pos (lt_of_heap hb')], hp0, by rw [setB_get, if_neg hbb]; exact hb0', ?_⟩
              have base := (hit.ext g1.ext (MapGoes.refl _ _)).ext ex2 (MapGoes.refl _ _)
              refine ⟨base.hcnt, base.hborn, ?_, base.hsince, base.hlast⟩
              have : (sn.push left[k].born).toList.reverse = left[k].born :: sn.toList.reverse := by simp
              rw [this]
              exact .cons ⟨j, left[k], by omega, hjm', rfl, ((he2.key.ext g1.ext).ext ex2), kt, hkdk.ok ee hee⟩ base.hseen
            have g2 := goes_iter g1.mem (x := .iter (some mid) seen cnt) hg hp hz hb' (by simp) (by simp [rowSize, hb']) hro
            refine ⟨used, .tup [.bool true, ee.1, ee.2], H.put i (.iter (some mid) (ee.1 :: seen) cnt), .tuple #[.bool true, left[k].key, left[k].val], _, fun η => ?_, ?_, g1.trans g2, ?_⟩
            · simp only [nextF, hg, hgm, hck.1, hck.2, Bool.and_self, if_true]
              have hu := hused η
              split
              · rename_i hn; rw [hn] at hemem; simp at hemem
              · rw [hu]
            · rw [hr1]
              simp only [Sem.run_bind, run_setObj hb', Result.andThen_ok, Sem.run_pure]
            · refine .tup _ _ rfl (fun i h h' => ?_)
              match i, h, h' with
              | 0, _, _ => exact .bool true
              | 1, _, _ => exact (he2.key.ext g1.ext).ext ex2
              | 2, _, _ => exact (he2.val.ext g1.ext).ext ex2
        · simp at hq0
      · simp at hq0
    · simp at hq0
  · simp at hq0

theorem sim_entry {P : Program} (m : MemR cx ψ Z L H w) {x : AV} {xv : Value} (hv : VR cx.fm (ph ψ) Z w x xv) {r : AV} (hr : entryF H x = some r) :
    ∃ val, (Instr.entry xv).run P w = .ok val w ∧ VR cx.fm (ph ψ) Z w r val := by
  unfold entryF at hr
  split at hr
  · rename_i i
    split at hr
    · rename_i mid k seen cnt hg
      split at hr
      · rename_i es hgm
        split at hr
        · rename_i v hbeq hf
          simp only [Option.some.injEq] at hr
          subst hr
          have hcnt := Nat.eq_of_beq_eq_true hbeq
          obtain ⟨⟨b, e⟩, hp, hz, he, b0, e0, since, sn, last, ms, clk, hb, hp0, hb0, hit⟩ := m.inv.obj (.inl i) _ (by simp only [look]; exact hg)
          simp only at he hb hz
          subst he
          have hx := ptr_val hv (show ph ψ i = some (b, 0) from hp)
          subst hx
          obtain ⟨b1, e1, ms1, clk1, es0, p1, p2, p3, p4, p5, p6⟩ := obj_map m hgm
          have hp0' : ψ (.inl mid) = some (b0, e0) := hp0
          rw [hp0'] at p1
          simp only [Option.some.injEq, Prod.mk.injEq] at p1
          obtain ⟨rfl, rfl⟩ := p1
          rw [hb0] at p3
          simp only [Option.some.injEq, Obj.map.injEq] at p3
          obtain ⟨rfl, rfl⟩ := p3
          have hlen := all2_len p4.rel
          have hpl := p5.length_eq
          have hsz : ms.size = cnt := by simp at hlen; omega
          have hlast := hit.hlast hsz
          subst hlast
          obtain ⟨stamp, sr, hsr, hrel1⟩ : ∃ stamp sr, sn.toList.reverse = stamp :: sr ∧ ∃ (i : Nat) (mm : MapEntry), i < cnt ∧ ms[i]? = some mm ∧ mm.born = stamp ∧ VR cx.fm (ph ψ) Z w k mm.key ∧ ∃ kt, ktOk kt k = true := by
            have h0 := hit.hseen
            generalize hrv : sn.toList.reverse = rv at h0
            cases h0 with
            | cons p _ => exact ⟨_, _, rfl, p⟩
          obtain ⟨j, mm, hj, hjm, hborn, hkey, kt', hkt'⟩ := hrel1
          obtain ⟨kt, hkdk, hok⟩ := KD.shape p6 hkt' hf
          have hback : sn.back? = some stamp := by
            have := congrArg List.head? hsr
            rw [List.head?_reverse] at this
            rw [← Array.getLast?_toList]; simpa using this
          have hjm' : ms.toList[j]? = some mm := by simpa using hjm
          obtain ⟨ee, he1, he2⟩ := all2_index p4.rel hjm'
          have hke : ee.1 = k := vr_inj (hkdk.ok ee (p5.mem_iff.1 (List.mem_of_getElem? he1))) hok he2.key hkey
          have hkv : (k, v) ∈ es := by
            rcases mfind_cases hok hkdk with ⟨v', q1, q2⟩ | ⟨q1, _⟩
            · rw [hf] at q1; simp at q1; rw [q1]; exact q2
            · rw [hf] at q1; simp at q1
          have hev : ee.2 = v := by
            refine hkdk.uniq (k := k) ?_ hkv
            have := p5.mem_iff.1 (List.mem_of_getElem? he1)
            rw [← hke]; exact this
          have hfind : ms.find? (fun e => e.born == stamp) = some mm := by
            rw [← Array.find?_toList]
            rw [List.find?_eq_some_iff_getElem]
            obtain ⟨hlt, hget⟩ := List.getElem?_eq_some_iff.1 hjm'
            refine ⟨by simp [hborn], j, hlt, hget, fun i hi => ?_⟩
            simp only [Bool.not_eq_true', beq_eq_false_iff_ne, ne_eq]
            intro hc
            have := nodup_index p4.nodup (i := i) (j := j) (a := stamp) (by rw [List.getElem?_map, List.getElem?_eq_getElem (show i < ms.toList.length by omega)]; simp only [Option.map_some, Option.some.injEq]; exact hc) (by rw [List.getElem?_map, hjm']; simp [hborn])
            omega
          refine ⟨.tuple #[mm.key, mm.val], ?_, ?_⟩
          · simp [Instr.entry, run_getObj hb, run_getMap hb0, hback, hfind]
          · refine .tup _ _ rfl (fun i h h' => ?_)
            match i, h, h' with
            | 0, _, _ => exact hkey
            | 1, _, _ => rw [← hev]; exact he2.val
        · simp at hr
      · simp at hr
    · simp at hr
  · simp at hr

theorem loadS_load {d : Option Nat} {T : List TV} {L L' : Boxes} {H H' : Heap} {agg : Bool} {n : Nat} {x : AOpd} {tv : TV} (h : (AOp.loadS agg n x).sem d T L H = some (tv, L', H')) : (AOp.load agg n x).sem d T L H = some (tv, L', H') := by
  simp only [AOp.sem] at h ⊢
  split at h
  · rename_i id off e
    split at h
    · rename_i c hg
      split at h
      · rename_i hb
        simp only [Bool.and_eq_true] at hb
        rw [e]
        simp only [cellsAt, hg, hb.1, if_true]
        exact h
      · simp at h
    · simp at h
  · simp at h
theorem appS_app {d : Option Nat} {T : List TV} {L L' : Boxes} {H H' : Heap} {hp : Bool} {n m : Nat} {x y : AOpd} {tv : TV} (h : (AOp.appS hp n m x y).sem d T L H = some (tv, L', H')) : (AOp.app hp n m x y).sem d T L H = some (tv, L', H') := by
  simp only [AOp.sem] at h ⊢
  split at h
  · rename_i u v e1 e2
    split at h
    · rename_i e3; rw [e3]; exact h
    · simp at h
  · simp at h

theorem sim_op (h : SR cx nt ψ Z s a w) {p : AOp} (hok : okOp cx o p = true) (hs : p.sem o.dst s.T s.L s.H = some (tv, L', H')) : OpSim cx ψ Z s a w o tv L' H' := by
  cases p with
  | mv x => exact sim_mv h hok hs
  | pick c x y => exact sim_pick h hok hs
  | alloc p z => exact sim_alloc h hok hs
  | box p x => exact sim_box h hok hs
  | build z ps => exact sim_build h hok hs
  | bslice p n z ps => exact sim_bslice h hok hs
  | load b n x => exact sim_load h hok hs
  | loadS b n x => exact sim_load h (n := n) (show okOp cx o (.load b n x) = true from hok) (loadS_load hs)
  | store n x y => exact sim_store h hok hs
  | nilck x => exact sim_nilck h hok hs
  | bin ty op x y => exact sim_bin h hok hs
  | not x => exact sim_not h hok hs
  | neg x => exact sim_neg h hok hs
  | bnot x => exact sim_bnot h hok hs
  | cint k x => exact sim_cint h hok hs
  | cstr x => exact sim_cstr h hok hs
  | sbytes x => exact sim_sbytes h hok hs
  | bstr x => exact sim_bstr h hok hs
  | faddr n x => exact sim_faddr h hok hs
  | field b n m x => exact sim_field h hok hs
  | iaddr arr n x i => exact sim_iaddr h hok hs
  | index x i => exact sim_index h hok hs
  | sliceS x lo hi => exact sim_sliceS h hok hs
  | sliceL n x lo hi mx => exact sim_sliceL h hok hs
  | sliceA n m x lo hi => exact sim_sliceA h hok hs
  | lookup kt z ok m k => exact sim_lookup h hok hs
  | mupd kt m k x => exact sim_mupd h hok hs
  | ins kt m k x => exact sim_ins h hok hs
  | ment kt z m k => exact sim_ment h hok hs
  | estore m s x => exact sim_estore h hok hs
  | mkmap => exact sim_mkmap h hok hs
  | mkslice n m z l c => exact sim_mkslice h hok hs
  | mkfun g x y => exact sim_mkfun h hok hs
  | extract i x => exact sim_extract h hok hs
  | app p n m x y => exact sim_app h hok hs
  | appS p n m x y => exact sim_app h (show okOp cx o (.app p n m x y) = true from hok) (appS_app hs)
  | clr n z x => exact sim_clr h hok hs
  | len ty x => exact sim_len h hok hs
  | max xs => exact sim_max h hok hs
  | min xs => exact sim_min h hok hs
  | call f xs => simp [AOp.sem] at hs

end
end Go.Am
