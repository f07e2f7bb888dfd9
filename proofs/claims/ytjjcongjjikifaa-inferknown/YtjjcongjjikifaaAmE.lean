/- One operation of a region: whatever it is (a call, too), guarded or not, stands for one of the model's. -/
import Derived.Test.YtjjcongjjikifaaAmD
set_option linter.unusedVariables false
set_option linter.unusedSimpArgs false
namespace Go.Am

/-! ### slots -/
theorem lget_lset (T : List TV) (k j : Nat) (v : TV) : lget (lset T k v) j = if j = k then v else lget T j := by
  induction T generalizing k j with
  | nil =>
    induction k generalizing j with
    | zero => cases j <;> simp [lset, lget]
    | succ k ih => cases j with
      | zero => simp [lset, lget]
      | succ j => simp only [lset, lget, Nat.add_right_cancel_iff]; rw [ih]; simp [lget]
  | cons x r ih =>
    cases k with
    | zero => cases j <;> simp [lset, lget]
    | succ k => cases j with
      | zero => simp [lset, lget]
      | succ j => simp only [lset, lget, Nat.add_right_cancel_iff]; exact ih k j

theorem undef_tvr {fm : Fm} {ψ : Ps} {Z : Ze} {H : Heap} {w : World} : TVR fm ψ Z H w .undef undef := by
  refine VR.tup [] #[] rfl (fun i h => by simp at h)

section
variable {cx : Cx} {nt : Nat} {ψ : Ps} {Z : Ze} {s : St} {a : Act} {w : World} {o : Oper} {L' : Boxes} {H' : Heap}

theorem SR.put (h : SR cx nt ψ Z s a w) {d : Option Nat} (hd : ∀ k, d = some k → k < nt) {ψ' : Ps} {Z' : Ze} {w' : World} {tv : TV} {val : Value}
    (hg : Goes cx ψ Z s.L s.H w ψ' Z' L' H' w') (hv : TVR cx.fm ψ' Z' H' w' tv val) {om : List Nat} : SR cx nt ψ' Z' ⟨putT s.T d tv, L', H', om⟩ (a.put d val) w' := by
  cases d with
  | none =>
    exact ⟨h.defers, h.size, fun k => (h.tmps k).goes hg, hg.mem⟩
  | some d =>
    have hd := hd d rfl
    refine ⟨h.defers, by simp [Act.put, h.size], fun k => ?_, hg.mem⟩
    simp only [putT, Act.put, lget_lset]
    have hs := h.size
    by_cases hk : k = d
    · subst hk
      have : (a.tmps.setIfInBounds k val).getD k undef = val := by simp [Array.getD, hs, hd]
      rw [if_pos rfl, this]; exact hv
    · rw [if_neg hk]
      have : (a.tmps.setIfInBounds d val).getD k undef = a.tmps.getD k undef := by
        rw [Array.getD_eq_getD_getElem?, Array.getD_eq_getD_getElem?, Array.getElem?_setIfInBounds_ne (fun e => hk e.symm)]
      rw [this]; exact (h.tmps k).goes hg

/-! ### guards -/
def okGuard (nt : Nat) (ops : Array Oper) : Option (Nat × Bool) → Option (Nat × Bool) → Bool
  | none, none => true
  | some (g, b), some (k, b') => (b == b') && decide ((ops[g]?).bind (·.dst) = some k) && Nat.blt k nt
  | _, _ => false

theorem wanted_eq (h : SR cx nt ψ Z s a w) {ops : Array Oper} {g : Option (Nat × Bool)} (hg : okGuard nt ops o.guard g = true) : Region.wanted o (yielded ops a.tmps) = wantedA s.T g := by
  unfold Region.wanted wantedA
  unfold okGuard at hg
  split at hg
  · rename_i h1; rw [h1]
  · rename_i i b k b' h1
    simp only [Bool.and_eq_true, beq_iff_eq, decide_eq_true_eq] at hg
    obtain ⟨⟨rfl, h2⟩, h3⟩ := hg
    have h3 : k < nt := by simpa [Nat.blt_eq] using h3
    rw [h1]
    simp only [yielded, h2, Option.bind_some]
    have hs := h.size
    have ht := h.tmps k
    have hk : a.tmps[k]? = some (a.tmps.getD k undef) := by simp [Array.getD, hs, h3]
    rw [hk]
    generalize a.tmps.getD k undef = val at *
    generalize lget s.T k = tv at *
    cases tv with
    | v x =>
      cases x <;> (cases ht <;> rfl)
    | bx k g off => obtain ⟨_, _, _, rfl⟩ := ht; rfl
    | st id key ver ex =>
      obtain ⟨_, n, h2, _⟩ := ht
      cases ex
      · obtain ⟨v0, rfl⟩ : ∃ v0, val = .tuple #[v0, .int .i64 n] := h2
        rfl
      · have : val = .int .i64 n := h2
        subst this; rfl
  · simp at hg

/-! ### calls -/
def inls (ψ : Ps) : Ps
  | .inl i => ψ (.inl i)
  | .inr _ => none
def both (ψ0 ψ : Ps) : Ps
  | .inl i => ψ0 (.inl i)
  | .inr q => ψ (.inr q)

/-- The function is called alike in the model, with a part of the choices. -/
structure CallOK (cx : Cx) (call : Caller) : Prop where
  fn : ∀ (g : Nat) (f : FuncId) (args : List AV) (h : Heap) (ψ : Ps) (Z : Ze) (w : World) (args' : Array Value),
    (∀ om, ∃ q, call g args h om = some q) → cx.fm f = some g → (∀ q, ψ (.inr q) = none) → MemR cx ψ Z .lf h w → VRs cx.fm (ph ψ) Z w args args'.toList →
    Calls cx.P f args' w fun e w' => ∃ used r h' v ψ' Z', (∀ η, call g args h (used ++ η) = some (r, h', η)) ∧ e = .returned v ∧ Goes cx ψ Z .lf h w ψ' Z' .lf h' w' ∧ VR cx.fm (ph ψ') Z' w' r v ∧ ∀ q, ψ' (.inr q) = none
  ps : ∀ (g : Nat) (args : List AV) (h : Heap) (om : List Nat) (r : AV × Heap × List Nat), rangeId ≤ g → call g args h om = some r → pseudo g args h om = some r

theorem goes_ver {cx : Cx} {ψ ψ' : Ps} {Z Z' : Ze} {L L' : Boxes} {H H1 : Heap} {w w' : World} (g : Goes cx ψ Z L H w ψ' Z' L' H1 w') : Goes cx ψ Z L H w ψ' Z' L' { H1 with ver := H1.ver + 1 } w' := by
  have hl : look L' { H1 with ver := H1.ver + 1 } = look L' H1 := by funext o; cases o <;> rfl
  refine ⟨⟨by rw [hl]; exact g.mem.inv, g.mem.freshH, g.mem.freshL, g.mem.gl⟩, g.ext, g.ps, by rw [hl]; exact g.fr, .inr ?_, g.zz⟩
  rcases g.ver with ⟨rfl, _⟩ | h
  · exact Nat.lt_succ_self _
  · exact Nat.lt_succ_of_lt h

theorem bget_nil (k : Nat) : bget .lf k = [] := rfl
theorem look_nil (H : Heap) (q : Nat × Nat) : look .lf H (.inr q) = none := by simp [look, bget_nil, bgen]

theorem memR_inls (h : MemR cx ψ Z s.L s.H w) : MemR cx (inls ψ) Z .lf s.H w := by
  refine ⟨⟨fun o x hx => ?_, fun o o' x x' p p' h1 h2 h3 h4 h5 => ?_, h.inv.zs⟩, h.freshH, fun _ _ _ => rfl, h.gl⟩
  · cases o with
    | inl i => exact h.inv.obj (.inl i) x hx
    | inr q => rw [look_nil] at hx; simp at hx
  · cases o with
    | inr q => rw [look_nil] at h1; simp at h1
    | inl i => cases o' with
      | inr q => rw [look_nil] at h2; simp at h2
      | inl j => exact h.inv.inj (.inl i) (.inl j) x x' p p' h1 h2 h3 h4 h5

theorem look_ver (L : Boxes) (H : Heap) (n : Nat) : look L { H with ver := n } = look L H := by
  funext o; cases o <;> rfl

theorem goes_call (hm : MemR cx ψ Z s.L s.H w) {ψ' : Ps} {Z' : Ze} {h' : Heap} {w' : World} (hg : Goes cx (inls ψ) Z .lf s.H w ψ' Z' .lf h' w') (n : Nat) (hn : h'.ver < n) :
    Goes cx ψ Z s.L s.H w (both ψ' ψ) Z' s.L { h' with ver := n } w' := by
  have notO : ∀ (q : Nat × Nat) x p, look s.L s.H (.inr q) = some x → ψ (.inr q) = some p → ¬ Owned (inls ψ) (look .lf s.H) p.1 := by
    rintro q x p hx hp ⟨o, x', p', h1, h2, h3⟩
    cases o with
    | inr q' => rw [look_nil] at h1; simp at h1
    | inl i =>
      have := hm.inv.inj (.inl i) (.inr q) x' x p' p h1 hx h2 hp h3
      simp at this
  have lt : ∀ (o : OId) x p, look s.L s.H o = some x → ψ o = some p → p.1 < w.heap.size := by
    intro o x p hx hp
    obtain ⟨p2, hp2, ho⟩ := hm.inv.obj o x hx
    rw [hp] at hp2; cases hp2
    cases x with
    | cells c => obtain ⟨_, arr, el, h1, _⟩ := ho; exact lt_of_heap h1
    | map es => obtain ⟨_, ms, clk, _, h1, _⟩ := ho; exact lt_of_heap h1
    | tok => obtain ⟨_, arr, el, h1, _⟩ := ho; exact lt_of_heap h1
    | iter _ _ _ => exact ho.lt
  have hext : Ext (ph ψ) (ph (both ψ' ψ)) Z Z' w w' := hg.ext
  refine ⟨⟨⟨fun o x hx => ?_, fun o o' x x' p p' h1 h2 h3 h4 h5 => ?_, hg.mem.inv.zs⟩, hg.mem.freshH, hm.freshL, hg.mem.gl⟩, hext, fun o p hp => ?_, ⟨fun b hb ho => hg.fr.same b hb fun hc => ho ?_, fun b hb ho => ?_⟩, .inr ?_, fun b hb ho => hg.zz b hb fun hc => ho ?_⟩
  · rw [look_ver] at hx
    cases o with
    | inl i => exact hg.mem.inv.obj (.inl i) x hx
    | inr q =>
      have hx' : look s.L s.H (.inr q) = some x := hx
      obtain ⟨p, hp, ho⟩ := hm.inv.obj (.inr q) x hx'
      refine ⟨p, hp, ho.ext hext (hg.fr.same _ (lt _ _ _ hx' hp) (notO q x p hx' hp)) (hg.zz _ (lt _ _ _ hx' hp) (notO q x p hx' hp))⟩
  · rw [look_ver] at h1 h2
    have mixed : ∀ (i : Nat) (q : Nat × Nat) x x' p p', look s.L h' (.inl i) = some x → look s.L h' (.inr q) = some x' → both ψ' ψ (.inl i) = some p → both ψ' ψ (.inr q) = some p' → p.1 = p'.1 → False := by
      intro i q x x' p p' h1 h2 h3 h4 h5
      have h2' : look s.L s.H (.inr q) = some x' := h2
      refine hg.fr.own _ (lt (.inr q) x' p' h2' h4) (notO q x' p' h2' h4) ⟨.inl i, x, p, h1, h3, h5⟩
    cases o with
    | inl i => cases o' with
      | inl j => exact hg.mem.inv.inj (.inl i) (.inl j) x x' p p' h1 h2 h3 h4 h5
      | inr q => exact (mixed i q x x' p p' h1 h2 h3 h4 h5).elim
    | inr q => cases o' with
      | inl j => exact (mixed j q x' x p' p h2 h1 h4 h3 h5.symm).elim
      | inr q' => exact hm.inv.inj (.inr q) (.inr q') x x' p p' h1 h2 h3 h4 h5
  · cases o with
    | inl i => exact hg.ps (.inl i) p hp
    | inr q => exact hp
  · obtain ⟨o, x, p, h1, h2, h3⟩ := hc
    cases o with
    | inr q => rw [look_nil] at h1; simp at h1
    | inl i => exact ⟨.inl i, x, p, h1, h2, h3⟩
  · rintro ⟨o, x, p, h1, h2, h3⟩
    rw [look_ver] at h1
    cases o with
    | inr q => exact ho ⟨.inr q, x, p, h1, h2, h3⟩
    | inl i =>
      refine hg.fr.own b hb (fun hc => ho ?_) ⟨.inl i, x, p, h1, h2, h3⟩
      obtain ⟨o, x, p, h1, h2, h3⟩ := hc
      cases o with
      | inr q => rw [look_nil] at h1; simp at h1
      | inl i => exact ⟨.inl i, x, p, h1, h2, h3⟩
  · rcases hg.ver with ⟨rfl, _⟩ | hv
    · exact hn
    · exact Nat.lt_trans hv hn
  · obtain ⟨o, x, p, h1, h2, h3⟩ := hc
    cases o with
    | inr q => rw [look_nil] at h1; simp at h1
    | inl i => exact ⟨.inl i, x, p, h1, h2, h3⟩

theorem func_inv {fm : Fm} {φ : Ph} {g : Nat} {first cap : List AV} {v : Value} (h : VR fm φ Z w (.func g first cap) v) :
    ∃ (f : FuncId) (first' cap' : Array Value), v = .func (.func f) first' cap' ∧ fm f = some g ∧ VRs fm φ Z w first first'.toList ∧ VRs fm φ Z w cap cap'.toList := by
  cases h with
  | func g f first cap first' cap' h h1 h2 r1 r2 =>
    exact ⟨f, first', cap', rfl, h, vrs_of (by simpa using h1) (fun i p q => by simpa using r1 i p (by simpa using q)), vrs_of (by simpa using h2) (fun i p q => by simpa using r2 i p (by simpa using q))⟩

/-- All that is asked of the functions that are numbered. -/
def FnsOK (cx : Cx) : Prop := ∀ f g, cx.fm f = some g → ∃ fn, cx.P.funcs[f]? = some fn ∧ fn.name ≠ "runtime.NumGoroutine" ∧ fn.body.isSome = true

theorem ps_args (h : SR cx nt ψ Z s a w) {id : Nat} {f : AOpd} {x : Operand} {ys : List AOpd} (h1 : okPs id f = true) (h2 : okOpds cx [x] ys = true) {g : Nat} {as : List AV} (hc : callee s.T f ys = some (g, as)) :
    ∃ v, as = [v] ∧ VR cx.fm (ph ψ) Z w v (a.eval x) ∧ g = id := by
  unfold okPs at h1
  split at h1
  · rename_i g0
    have := Nat.eq_of_beq_eq_true h1
    subst this
    unfold callee at hc
    split at hc
    · rename_i g' first cap as' e1 e2
      simp only [eva, ev, Option.some.injEq, AV.func.injEq] at e1
      obtain ⟨rfl, rfl, rfl⟩ := e1
      simp only [Option.some.injEq, Prod.mk.injEq] at hc
      obtain ⟨rfl, rfl⟩ := hc
      have := h.opds h2 e2
      simp only [List.map_cons, List.map_nil] at this
      cases this with
      | cons p q => cases q; exact ⟨_, rfl, p, rfl⟩
    · simp at hc
  · simp at h1

theorem call_sound (hf : FnsOK cx) {call : Caller} (hcall : CallOK cx call) (h : SR cx nt ψ Z s a w) {f : AOpd} {xs : List AOpd} (hok : okOp cx o (.call f xs) = true)
    {g : Nat} {as : List AV} (hc : callee s.T f xs = some (g, as)) (hr : ∀ om, ∃ q, call g as s.H om = some q) {K : Act → World → Prop} {Q : Exit → Act → World → Prop}
    (hK : ∀ used r h' val w' ψ' Z', (∀ η, call g as s.H (used ++ η) = some (r, h', η)) → Goes cx ψ Z s.L s.H w ψ' Z' s.L { h' with ver := h'.ver + 1 } w' → TVR cx.fm ψ' Z' { h' with ver := h'.ver + 1 } w' (.v r) val → K (a.put o.dst val) w') :
    o.wp cx.P a w K Q := by
  obtain ⟨dst, op, type, pos, after, guard⟩ := o
  simp only [okOp] at hok
  split at hok
  · rename_i c
    split at hok
    · rename_i x hcal
      simp only [Bool.and_eq_true] at hok
      unfold callee at hc
      split at hc
      · rename_i g' first cap as' h1 h2
        simp only [Option.some.injEq, Prod.mk.injEq] at hc
        obtain ⟨rfl, rfl⟩ := hc
        obtain ⟨f', first', cap', hv, hfm, hfi, hca⟩ := func_inv (h.opda hok.1 h1)
        have hargs := h.opds hok.2 h2
        obtain ⟨fn, hfn, hname, hbody⟩ := hf _ _ hfm
        have hrun : (execOp a.eval ⟨dst, .call c, type, pos, after, guard⟩).run cx.P w = .ok (.enter f' (first' ++ c.args.map a.eval ++ cap')) w := by
          have hn : (fn.name == "runtime.NumGoroutine") = false := by simpa using hname
          have hb : fn.body.isNone = false := by cases hbb : fn.body <;> simp_all
          have hcf : ∀ as, (callFunc f' as).run cx.P w = .ok (.enter f' as) w := fun as => by
            unfold callFunc
            have hp : (program).run cx.P w = .ok cx.P w := rfl
            simp only [Sem.run_bind, hp, Result.andThen_ok, hfn, hn, hb, Bool.false_eq_true, if_false, Sem.run_pure]
          simp only [execOp, Sem.run_bind, resolve, hcal, hv, Deferred.ofValue, Sem.run_pure, Result.andThen_ok, invoke, hcf]
        unfold Oper.wp
        rw [hrun, Oper.upon_enter]
        refine Calls.mono (hcall.fn g' f' _ _ (inls ψ) Z w _ hr hfm (fun _ => rfl) (memR_inls h.mem) ?_) ?_
        · have := (hfi.append hargs).append hca
          have e : (first' ++ c.args.map a.eval ++ cap').toList = first'.toList ++ List.map a.eval c.args.toList ++ cap'.toList := by simp
          rw [e]; exact this
        · rintro e w' ⟨used, r, h', v, ψ', Z', hu, rfl, hg, hvr, hq⟩
          refine hK used r h' v w' _ Z' hu (goes_call h.mem hg _ (Nat.lt_succ_self _)) hvr
      · simp at hc
    · simp at hok
  · rename_i t x
    simp only [Bool.and_eq_true] at hok
    obtain ⟨⟨h1, h2⟩, h3⟩ := hok
    obtain ⟨v, rfl, hv, rfl⟩ := ps_args h h1 h2 hc
    split at h3
    · rename_i k el hu
      have hps : ∀ om, ∃ q, pseudo rangeId [v] s.H om = some q := fun om => by
        obtain ⟨q, hq⟩ := hr om
        exact ⟨q, hcall.ps _ _ _ _ _ (Nat.le_refl _) hq⟩
      have hne : Nat.beq rangeId nextId = false := by decide
      have hbr : ∀ om, pseudo rangeId [v] s.H om = match rangeF s.H v with | some (v, h') => some (v, h', om) | none => none := fun om => by
        simp only [pseudo, hne, Nat.beq_refl]; rfl
      cases hrf : rangeF s.H v with
      | none =>
        obtain ⟨q, hq⟩ := hps []
        rw [hbr, hrf] at hq; simp at hq
      | some p =>
        obtain ⟨r, H1⟩ := p
        obtain ⟨val, w', ψ', r1, r2, r3, _⟩ := sim_range (P := cx.P) hu h.mem hv hrf
        unfold Oper.wp
        have hrun : (execOp a.eval ⟨dst, .range t x, type, pos, after, guard⟩).run cx.P w = .ok (.value val) w' := by
          simp only [execOp, Sem.run_bind, r1, Result.andThen_ok, Sem.run_pure]
        rw [hrun, Oper.upon_value]
        refine hK [] r H1 val w' ψ' Z (fun η => ?_) (goes_ver r2) r3
        obtain ⟨q, hq⟩ := hr η
        have := hcall.ps _ _ _ _ _ (Nat.le_refl _) hq
        rw [hbr, hrf] at this
        rw [List.nil_append, hq, ← this]
    · simp at h3
  · rename_i x
    simp only [Bool.and_eq_true] at hok
    obtain ⟨v, rfl, hv, rfl⟩ := ps_args h hok.1 hok.2 hc
    have hbr : ∀ om, pseudo nextId [v] s.H om = nextF s.H v om := fun om => by
      simp only [pseudo, Nat.beq_refl]; rfl
    have hge : rangeId ≤ nextId := by decide
    have hps : ∀ om, ∃ q, nextF s.H v om = some q := fun om => by
      obtain ⟨q, hq⟩ := hr om
      exact ⟨q, by rw [← hbr]; exact hcall.ps _ _ _ _ _ hge hq⟩
    obtain ⟨used, r, H1, val, w', r0, r1, r2, r3⟩ := sim_next (P := cx.P) (ty := type) h.mem hv hps
    unfold Oper.wp
    have hrun : (execOp a.eval ⟨dst, .next x false, type, pos, after, guard⟩).run cx.P w = .ok (.value val) w' := by
      simp only [execOp, Sem.run_bind, r1, Result.andThen_ok, Sem.run_pure]
    rw [hrun, Oper.upon_value]
    refine hK used r H1 val w' ψ Z (fun η => ?_) (goes_ver r2) r3
    obtain ⟨q, hq⟩ := hr (used ++ η)
    have := hcall.ps _ _ _ _ _ hge hq
    rw [hbr, r0 η] at this
    rw [hq, ← this]
  · rename_i x
    simp only [Bool.and_eq_true] at hok
    obtain ⟨v, rfl, hv, rfl⟩ := ps_args h hok.1 hok.2 hc
    have hn1 : Nat.beq entryId nextId = false := by decide
    have hn2 : Nat.beq entryId rangeId = false := by decide
    have hbr : ∀ om, pseudo entryId [v] s.H om = match entryF s.H v with | some v => some (v, s.H, om) | none => none := fun om => by
      simp only [pseudo, hn1, hn2, Nat.beq_refl]; rfl
    have hge : rangeId ≤ entryId := by decide
    cases hrf : entryF s.H v with
    | none =>
      obtain ⟨q, hq⟩ := hr []
      have := hcall.ps _ _ _ _ _ hge hq
      rw [hbr, hrf] at this; simp at this
    | some r =>
      obtain ⟨val, r1, r2⟩ := sim_entry (P := cx.P) h.mem hv hrf
      unfold Oper.wp
      have hrun : (execOp a.eval ⟨dst, .entry x, type, pos, after, guard⟩).run cx.P w = .ok (.value val) w := by
        simp only [execOp, Sem.run_bind, r1, Result.andThen_ok, Sem.run_pure]
      rw [hrun, Oper.upon_value]
      refine hK [] r s.H val w ψ Z (fun η => ?_) (goes_ver (Goes.refl h.mem)) r2
      obtain ⟨q, hq⟩ := hr η
      have := hcall.ps _ _ _ _ _ hge hq
      rw [hbr, hrf] at this
      rw [List.nil_append, hq, ← this]
  · simp at hok

/-! ### what an operation reads without some of the memory, it reads with it -/
theorem hideB_sub : ∀ (ks : List Nat) (L : Boxes) (k : Nat), bget (hideB L ks) k = bget L k ∨ bget (hideB L ks) k = []
  | [], L, k => .inl rfl
  | x :: ks, L, k => by
    rcases hideB_sub ks (bset L x []) k with h | h
    · simp only [hideB]
      rw [h, bget_bset]
      by_cases hk : k = x
      · rw [if_pos hk]; exact .inr rfl
      · rw [if_neg hk]; exact .inl rfl
    · exact .inr h
theorem cellsAt_mono {L : Boxes} {H H0 : Heap} {ks : List Nat} {t : TV} {cs : List AV} (h0 : H0 = H ∨ H0 = Heap.empty) (h : cellsAt (hideB L ks) H0 t = some cs) : cellsAt L H t = some cs := by
  cases t with
  | v x =>
    rcases h0 with rfl | rfl
    · cases x <;> exact h
    · cases x <;> simp_all [cellsAt, Heap.get, Heap.empty, oget]
  | bx k g off =>
    rcases hideB_sub ks L k with e | e
    · simpa only [cellsAt, e] using h
    · simp [cellsAt, e, bgen] at h
  | st => simp [cellsAt] at h

theorem hide_sem {d : Option Nat} {p : AOp} {T : List TV} {L L' : Boxes} {H H' H0 : Heap} {ks : List Nat} {v : TV} (hr : p.reads = true) (h0 : H0 = H ∨ H0 = Heap.empty) (h : p.sem d T (hideB L ks) H0 = some (v, L', H')) : p.sem d T L H = some (v, L, H) := by
  have hget : ∀ i x, H0.get i = some x → H.get i = some x := by
    intro i x hx
    rcases h0 with rfl | rfl
    · exact hx
    · simp [Heap.get, Heap.empty, oget] at hx
  cases p <;> simp only [AOp.reads, Bool.false_eq_true] at hr
  case load g n x =>
    simp only [AOp.sem] at h ⊢
    split at h
    · rename_i cs hc
      rw [cellsAt_mono h0 hc]
      simp only [ret1] at h ⊢
      cases hv : asV g n cs <;> simp_all
    · simp at h
  case loadS g n x =>
    have hnext : ∀ i, Nat.blt i H0.next = true → (∃ y, H0.get i = some y) → Nat.blt i H.next = true := by
      intro i hi hy
      rcases h0 with rfl | rfl
      · exact hi
      · obtain ⟨y, hy⟩ := hy; simp [Heap.get, Heap.empty, oget] at hy
    simp only [AOp.sem] at h ⊢
    split at h
    · rename_i i off e1
      split at h
      · rename_i c hc
        rw [hget _ _ hc]
        dsimp only
        split at h
        · rename_i hb
          simp only [Bool.and_eq_true] at hb
          rw [if_pos (by simp only [Bool.and_eq_true]; exact ⟨hb.1, hnext _ hb.2.1 ⟨_, hc⟩, hb.2.2⟩)]
          simp only [ret1] at h ⊢
          cases hv : asV g n (c.drop off) <;> simp_all
        · simp at h
      · simp at h
    · simp at h
  case lookup kt z ok m k =>
    simp only [AOp.sem] at h ⊢
    split at h
    · rename_i i key e1 e2
      split at h
      · rename_i es hes
        rw [hget _ _ hes]
        split at h
        · rename_i r e3 e4
          simp only [e3, e4]
          cases ok <;> (simp at h ⊢; exact h.1)
        · simp at h
      · simp at h
    · simp at h
  case bstr x =>
    simp only [AOp.sem] at h ⊢
    split at h
    · rename_i y hy
      have : ∀ q, sliceCells H0 1 y = some q → sliceCells H 1 y = some q := by
        intro q hq
        rcases h0 with rfl | rfl
        · exact hq
        · cases y <;> simp_all [sliceCells, Heap.get, Heap.empty, oget]
      split at h
      · rename_i cs n h1 h2
        simp only [hy, this _ h2, h1]
        simp only [ret1] at h ⊢
        cases hv : unBytes cs <;> simp_all
      · simp at h
    · simp at h
  case len ty x =>
    have hr := Nat.eq_of_beq_eq_true hr
    subst hr
    simp only [AOp.sem] at h ⊢
    split at h
    · rename_i e1 e2; simp at e1
    · rename_i e1 e2; simp at e1
    · rename_i e1 e2; simp at e1
    · rename_i i e1 e2
      split at h
      · rename_i es hes; simp only [hget _ _ hes]; simp at h ⊢; exact h.1
      · simp at h
    · simp at h ⊢; exact h.1
    · simp at h
  case sliceA n esz x lo hi =>
    simp only [AOp.sem] at h ⊢
    split at h
    · rename_i i off e1
      split at h
      · rename_i b e2
        split at h
        · rename_i c e3
          split at h
          · rename_i cs e4
            rw [hget _ _ e4]
            simp only [e2, e3]
            split at h
            · rename_i e5
              simp at h
              rw [if_pos e5]; simp [h.1]
            · simp at h
          · simp at h
        · simp at h
      · simp at h
    · simp at h

theorem semX_sem {ao : AOper} {T : List TV} {L L' : Boxes} {H H' : Heap} {v : TV} (h : semX ao T L H = some (v, L', H')) : ao.op.sem ao.dst T L H = some (v, L', H') := by
  unfold semX at h
  split at h
  · rename_i hr
    split at h
    · rename_i v' L2 H2 hs
      simp only [Option.some.injEq, Prod.mk.injEq] at h
      obtain ⟨rfl, rfl, rfl⟩ := h
      refine hide_sem hr (H0 := if ao.nh = true then Heap.empty else H) ?_ hs
      by_cases hn : ao.nh = true
      · rw [if_pos hn]; exact .inr rfl
      · rw [if_neg hn]; exact .inl rfl
    · simp at h
  · split at h
    · rename_i n x y k e1 e2
      rw [e1]
      split at h
      · split at h
        · exact h
        · simp at h
      · simp at h
    · exact h

/-! ### one operation -/
def okOper (cx : Cx) (nt : Nat) (ops : Array Oper) (o : Oper) (ao : AOper) : Bool :=
  decide (o.dst = ao.dst) && (match ao.dst with | some d => Nat.blt d nt | none => true) && okGuard nt ops o.guard ao.guard && okOp cx o ao.op

theorem step_sound (hf : FnsOK cx) {call : Caller} (hcall : CallOK cx call) {ops : Array Oper} {i : Nat} {ao : AOper} (hi : ops[i]? = some o) (hok : okOper cx nt ops o ao = true) (h : SR cx nt ψ Z s a w)
    (hs : ∀ om, ∃ s', step call ao { s with om } = some s') {K : Act → World → Prop} {Q : Exit → Act → World → Prop}
    (hK : ∀ used s' a' w' ψ' Z', (∀ η, step call ao { s with om := used ++ η } = some { s' with om := η }) → Goes cx ψ Z s.L s.H w ψ' Z' s'.L s'.H w' → SR cx nt ψ' Z' s' a' w' → K a' w') : wpOp cx.P ops Q i K a w := by
  simp only [okOper, Bool.and_eq_true, decide_eq_true_eq] at hok
  obtain ⟨⟨⟨h1, h2⟩, h3⟩, h4⟩ := hok
  have hd : ∀ k, o.dst = some k → k < nt := by
    intro k hk; rw [h1] at hk; rw [hk] at h2; simpa [Nat.blt_eq] using h2
  have hw := wanted_eq h h3
  unfold wpOp
  simp only [hi]
  rw [hw]
  by_cases hwt : wantedA s.T ao.guard = true
  · rw [if_pos hwt]
    left
    have plain : ∀ v L1 H1, semX ao s.T s.L s.H = some (v, L1, H1) → (∀ f xs, ao.op ≠ .call f xs) → o.wp cx.P a w K Q := by
      intro v L1 H1 hx hnc
      have hsem := semX_sem hx
      rw [← h1] at hsem
      obtain ⟨val, w', ψ', Z', hr, hg, ht⟩ := sim_op h h4 hsem
      have hst : ∀ η, step call ao { s with om := [] ++ η } = some { (⟨putT s.T ao.dst v, L1, H1, []⟩ : St) with om := η } := by
        intro η
        have : opF call ao s.T s.L s.H η = some (v, L1, H1, η) := by
          unfold opF
          rw [if_pos hwt]
          split
          · rename_i f xs hop; exact absurd hop (hnc f xs)
          · rw [hx]
        unfold step
        simp only [List.nil_append, this]
      have hsr : SR cx nt ψ' Z' ⟨putT s.T ao.dst v, L1, H1, []⟩ (a.put o.dst val) w' := by rw [← h1]; exact h.put hd hg ht
      have := hK [] _ _ _ _ _ hst hg hsr
      unfold Oper.wp
      rcases hr with hr | ⟨hr, rfl⟩
      · rw [hr, Oper.upon_value]; exact this
      · rw [hr, Oper.upon_skip]; exact this
    by_cases hcall' : ∃ f xs, ao.op = .call f xs
    · obtain ⟨f, xs, hop⟩ := hcall'
      have hopF : ∀ om, opF call ao s.T s.L s.H om = match callee s.T f xs with
          | some (g, as) => match call g as s.H om with
            | some (v, h, om') => some (.v v, s.L, { h with ver := h.ver + 1 }, om')
            | none => none
          | none => none := by
        intro om
        unfold opF
        rw [if_pos hwt]
        split
        · rename_i f' xs' hop'
          rw [hop] at hop'; cases hop'; rfl
        · rename_i hno; exact absurd hop (hno f xs)
      cases hcal : callee s.T f xs with
      | none =>
        obtain ⟨s', hs'⟩ := hs []
        unfold step at hs'
        rw [hopF, hcal] at hs'
        simp at hs'
      | some p =>
        obtain ⟨g, as⟩ := p
        rw [hop] at h4
        refine call_sound hf hcall h h4 hcal (fun om => ?_) (fun used r h' val w' ψ' Z' hu hg ht => ?_)
        · obtain ⟨s', hs'⟩ := hs om
          unfold step at hs'
          rw [hopF, hcal] at hs'
          dsimp only at hs'
          cases hc : call g as s.H om with
          | none => rw [hc] at hs'; simp at hs'
          | some q => exact ⟨q, rfl⟩
        · refine hK used ⟨putT s.T ao.dst (.v r), s.L, { h' with ver := h'.ver + 1 }, []⟩ _ _ ψ' Z' (fun η => ?_) hg ?_
          · unfold step
            rw [hopF, hcal]
            dsimp only
            rw [hu η]
          · rw [← h1]; exact h.put hd hg ht
    · obtain ⟨s', hs'⟩ := hs []
      have hnc : ∀ f xs, ao.op ≠ .call f xs := fun f xs e => hcall' ⟨f, xs, e⟩
      unfold step opF at hs'
      rw [if_pos hwt] at hs'
      cases hx : semX ao s.T s.L s.H with
      | none =>
        split at hs'
        · rename_i hh
          split at hh
          · rename_i f xs hop; exact absurd hop (hnc f xs)
          · simp [hx] at hh
        · simp at hs'
      | some q => exact plain q.1 q.2.1 q.2.2 hx hnc
  · rw [if_neg hwt]
    refine hK [] ⟨putT s.T ao.dst .undef, s.L, s.H, []⟩ _ _ ψ Z (fun η => ?_) (Goes.refl h.mem) ?_
    · unfold step opF
      simp only [hwt, List.nil_append]
      rfl
    · rw [← h1]; exact h.put hd (Goes.refl h.mem) undef_tvr

end
end Go.Am
