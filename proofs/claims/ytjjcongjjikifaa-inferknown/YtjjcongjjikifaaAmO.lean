/- What a function comes to, whatever the memory and the choices: worked out from an empty memory, or by what the functions that it calls come to. -/
import Derived.Test.YtjjcongjjikifaaAmZ2
import Derived.Test.YtjjcongjjikifaaAmM
import Derived.Test.YtjjcongjjikifaaAmV
set_option linter.unusedVariables false
set_option linter.unusedSimpArgs false
namespace Go.Am

/-- From every memory, whatever the choices, the function comes to v. -/
def Ev (prog : Nat → Option AFunc) (n g : Nat) (args : List AV) (v : AV) : Prop :=
  ∀ H om, H.wf → ∃ H' om', callN prog n g args H om = some (v, H', om') ∧ H'.wf
theorem Ev.mono {prog : Nat → Option AFunc} {n m g : Nat} {args : List AV} {v : AV} (h : Ev prog n g args v) (hm : n ≤ m) : Ev prog m g args v := by
  intro H om hw
  obtain ⟨H', om', h1, h2⟩ := h H om hw
  exact ⟨H', om', callN_mono hm _ _ _ _ _ h1, h2⟩

/-! ### from the empty memory -/
def leaf (r : Option (AV × Heap × List Nat)) : Option (AV × Bool) :=
  match r with
  | some (v, h, _) => some (v, wfB h)
  | none => none
def Closed (prog : Nat → Option AFunc) : Prop := ∀ g f, prog g = some f → clCode f.body = true
theorem Ev.leaf {prog : Nat → Option AFunc} (hcl : Closed prog) {n g : Nat} {args : List AV} {v : AV} (ha : clL args = true) (hv : clA v = true) (h : ∀ om, Go.Am.leaf (callX prog n g args Heap.empty om) = some (v, true)) : Ev prog n g args v := by
  intro H om hw
  have h1 := h om
  rw [callX_eq] at h1
  unfold Go.Am.leaf at h1
  split at h1
  · rename_i u h0 om' e
    simp only [Option.some.injEq, Prod.mk.injEq] at h1
    obtain ⟨rfl, h2⟩ := h1
    obtain ⟨⟨q1, q2, q3⟩, e1, e2, e3, e4⟩ := callN_sh hcl H.next H.ver n g args Heap.empty om _ e H (HR.start hw)
    simp only at e2 e3 e4
    rw [clL_map _ ha] at e1
    rw [clA_sh _ hv] at e2
    subst e2
    exact ⟨q2, q3, e1, e3.wf (wfB_wf h2)⟩
  · simp at h1

/-! ### equal values -/
def eqK : Tk → Tk → Bool
  | .nil, .nil | .no, .no | .exact, .exact => true
  | .live a b, .live c d => Nat.beq a c && Nat.beq b d
  | _, _ => false
theorem eqK_eq {a b : Tk} (h : eqK a b = true) : a = b := by
  unfold eqK at h
  split at h <;> first | rfl | (simp only [Bool.and_eq_true] at h; rw [Nat.eq_of_beq_eq_true h.1, Nat.eq_of_beq_eq_true h.2]) | (simp at h)
def eqS : List UInt8 → List UInt8 → Bool
  | [], [] => true
  | a :: r, b :: s => Nat.beq a.toNat b.toNat && eqS r s
  | _, _ => false
theorem eqS_eq : ∀ {a b : List UInt8}, eqS a b = true → a = b
  | [], [], _ => rfl
  | [], _ :: _, h => by simp [eqS] at h
  | _ :: _, [], h => by simp [eqS] at h
  | a :: r, b :: s, h => by
    simp only [eqS, Bool.and_eq_true] at h
    rw [UInt8.toNat_inj.1 (Nat.eq_of_beq_eq_true h.1), eqS_eq h.2]
mutual
def eqA : AV → AV → Bool
  | .bool a, .bool b => a == b
  | .int k a, .int j b => Nat.beq (kIdx k) (kIdx j) && intEq a b
  | .str a, .str b => eqS a b
  | .nilp, .nilp => true
  | .ptr i o, .ptr j p => Nat.beq i j && Nat.beq o p
  | .fp a, .fp b => eqAs a b
  | .sl i o l e, .sl j p m f => Nat.beq i j && Nat.beq o p && Nat.beq l m && Nat.beq e f
  | .pl a l t, .pl b m u => Nat.beq l m && eqK t u && eqAs a b
  | .map i, .map j => Nat.beq i j
  | .nilm, .nilm => true
  | .func g a c, .func h b d => Nat.beq g h && eqAs a b && eqAs c d
  | .nilf, .nilf => true
  | .nili, .nili => true
  | .agg a, .agg b => eqAs a b
  | .tup a, .tup b => eqAs a b
  | _, _ => false
def eqAs : List AV → List AV → Bool
  | [], [] => true
  | a :: r, b :: s => eqA a b && eqAs r s
  | _, _ => false
end
mutual
theorem eqA_eq : ∀ (a b : AV), eqA a b = true → a = b := by
  intro a b h
  cases a <;> cases b <;> simp only [eqA, Bool.and_eq_true, beq_iff_eq, Bool.false_eq_true] at h
  · rw [h]
  · rw [(kIdx_eq _ _).1 h.1]
    have := h.2
    rw [intEq_eq] at this
    rw [of_decide_eq_true this]
  · rw [eqS_eq h]
  · rfl
  · rw [Nat.eq_of_beq_eq_true h.1, Nat.eq_of_beq_eq_true h.2]
  · rw [eqAs_eq _ _ h]
  · rw [Nat.eq_of_beq_eq_true h.1.1.1, Nat.eq_of_beq_eq_true h.1.1.2, Nat.eq_of_beq_eq_true h.1.2, Nat.eq_of_beq_eq_true h.2]
  · rw [Nat.eq_of_beq_eq_true h.1.1, eqK_eq h.1.2, eqAs_eq _ _ h.2]
  · rw [Nat.eq_of_beq_eq_true h]
  · rfl
  · rw [Nat.eq_of_beq_eq_true h.1.1, eqAs_eq _ _ h.1.2, eqAs_eq _ _ h.2]
  · rfl
  · rfl
  · rw [eqAs_eq _ _ h]
  · rw [eqAs_eq _ _ h]
theorem eqAs_eq : ∀ (a b : List AV), eqAs a b = true → a = b
  | [], [], _ => rfl
  | [], _ :: _, h => by simp [eqAs] at h
  | _ :: _, [], h => by simp [eqAs] at h
  | a :: r, b :: s, h => by
    simp only [eqAs, Bool.and_eq_true] at h
    rw [eqA_eq a b h.1, eqAs_eq r s h.2]
end

/-! ### by what the called ones come to -/
abbrev Tab := List (Nat × List AV × AV)
def tfind : Tab → Nat → List AV → Option AV
  | [], _, _ => none
  | (g', as, v) :: r, g, args => if Nat.beq g' g && eqAs as args then some v else tfind r g args
def callT (tab : Tab) : Caller := fun g args h om => match tfind tab g args with
  | some v => some (v, h, om)
  | none => none
def TabOK (prog : Nat → Option AFunc) (n : Nat) (tab : Tab) : Prop := ∀ e ∈ tab, Ev prog n e.1 e.2.1 e.2.2
theorem tfind_ok {prog : Nat → Option AFunc} {n : Nat} : ∀ {tab : Tab} (_ : TabOK prog n tab) {g : Nat} {args : List AV} {v : AV}, tfind tab g args = some v → Ev prog n g args v
  | [], _, g, args, v, h => by simp [tfind] at h
  | (g', as, u) :: r, ht, g, args, v, h => by
    simp only [tfind] at h
    split at h
    · rename_i hb
      simp only [Bool.and_eq_true] at hb
      have e1 := Nat.eq_of_beq_eq_true hb.1
      have e2 := eqAs_eq _ _ hb.2
      subst e1; subst e2
      simp only [Option.some.injEq] at h; subst h
      exact ht (g', as, u) (by simp)
    · exact tfind_ok (fun e he => ht e (by simp [he])) h

/-- Code that touches no memory but by calls. -/
def hfOp (o : AOper) : Bool :=
  match o.op with
  | .call _ _ => true
  | .store _ _ _ => true
  | op => match op.cl with
    | .silent | .read => true
    | .box => o.dst.isSome
    | _ => false
def hfCode : ACode → Bool
  | .skip => true
  | .ops l _ => l.all hfOp
  | .frz _ => false
  | .seq a b => hfCode a && hfCode b
  | .cond _ a b => hfCode a && hfCode b
  | .block _ b => hfCode b
  | .loop b => hfCode b
  | .exit _ => true
  | .ret => true

structure RHf (s s' : St) : Prop where
  T : s'.T = s.T
  L : s'.L = s.L
  o : s.H.objs = []
  w : s'.H.wf
theorem get_none {H : Heap} (h : H.objs = []) (i : Nat) : H.get i = none := by simp [Heap.get, h, oget]
theorem bump_wf {H : Heap} (h : H.wf) (n : Nat) : ({ H with ver := n } : Heap).wf := h
theorem cellsAt_hf {L : Boxes} {H H' : Heap} (h : H.objs = []) {t : TV} {cs : List AV} (hc : cellsAt L H t = some cs) : cellsAt L H' t = some cs := by
  cases t with
  | v a => cases a <;> simp only [cellsAt, get_none h, reduceCtorEq] at hc ⊢; exact hc
  | bx j g o => exact hc
  | st => exact hc
theorem read_hf {p : AOp} (hr : p.reads = true) {d : Option Nat} {T : List TV} {L L' : Boxes} {H H1 H' : Heap} (h : H.objs = []) {v : TV} (hs : p.sem d T L H = some (v, L', H1)) : p.sem d T L H' = some (v, L, H') := by
  cases p <;> simp only [AOp.reads, Bool.false_eq_true] at hr
  case load g n x =>
    simp only [AOp.sem] at hs ⊢
    split at hs
    · rename_i cs hc
      rw [cellsAt_hf h hc]
      obtain ⟨a, e1, rfl, _, _⟩ := ret1_inv hs
      simp [e1, ret1]
    · simp at hs
  case loadS g n x =>
    simp only [AOp.sem, get_none h] at hs
    split at hs <;> simp at hs
  case lookup kt z ok m k =>
    simp only [AOp.sem, get_none h] at hs
    split at hs <;> simp at hs
  case bstr x =>
    simp only [AOp.sem] at hs ⊢
    split at hs
    · rename_i a e
      have : ∀ q, sliceCells H 1 a = some q → sliceCells H' 1 a = some q := by
        intro q hq
        cases a <;> simp_all [sliceCells, get_none h]
      split at hs
      · rename_i cs n e1 e2
        rw [e1, this _ e2]
        obtain ⟨b, e3, rfl, _, _⟩ := ret1_inv hs
        simp [e3, ret1]
      · simp at hs
    · simp at hs
  case len ty x =>
    have hr := Nat.eq_of_beq_eq_true hr
    subst hr
    simp only [AOp.sem, get_none h] at hs ⊢
    split at hs
    · rename_i e1 e2; simp at e1
    · rename_i e1 e2; simp at e1
    · rename_i e1 e2; simp at e1
    · simp at hs
    · rename_i e1 e2
      simp only [Option.some.injEq, Prod.mk.injEq] at hs
      simp [hs.1]
    · simp at hs
  case sliceA n esz x lo hi =>
    simp only [AOp.sem, get_none h] at hs
    split at hs
    · split at hs
      · split at hs <;> simp at hs
      · simp at hs
    · simp at hs

theorem opF_hf {prog : Nat → Option AFunc} {n : Nat} {tab : Tab} (ht : TabOK prog n tab) {o : AOper} (ho : hfOp o = true) {T : List TV} {L L' : Boxes} {H H1 H' : Heap} {om om1 om' : List Nat} {v : TV} (h : H.objs = []) (hw : H'.wf) (hs : opF (callT tab) o T L H om = some (v, L', H1, om1)) :
    ∃ H2 om2, opF (callN prog n) o T L H' om' = some (v, L', H2, om2) ∧ H1.objs = [] ∧ H2.wf := by
  by_cases hcall : ∃ f xs, o.op = .call f xs
  · obtain ⟨f, xs, hop⟩ := hcall
    unfold opF at hs ⊢
    by_cases hwt : wantedA T o.guard = true
    · rw [if_pos hwt] at hs ⊢
      rw [hop] at hs ⊢
      dsimp only at hs ⊢
      cases hc : callee T f xs with
      | none => rw [hc] at hs; simp at hs
      | some p =>
        obtain ⟨g, as⟩ := p
        rw [hc] at hs
        simp only [callT] at hs
        cases hf : tfind tab g as with
        | none => rw [hf] at hs; simp at hs
        | some u =>
          rw [hf] at hs
          simp only [Option.some.injEq, Prod.mk.injEq] at hs
          obtain ⟨rfl, rfl, rfl, rfl⟩ := hs
          obtain ⟨H2, om2, e1, e2⟩ := tfind_ok ht hf H' om' hw
          dsimp only
          rw [e1]
          exact ⟨_, _, rfl, h, bump_wf e2 _⟩
    · rw [if_neg hwt] at hs ⊢
      simp only [Option.some.injEq, Prod.mk.injEq] at hs
      obtain ⟨rfl, rfl, rfl, rfl⟩ := hs
      exact ⟨_, _, rfl, h, hw⟩
  · have hc : ∀ f xs, o.op ≠ .call f xs := fun f xs e => hcall ⟨f, xs, e⟩
    by_cases hst : ∃ m a x, o.op = .store m a x
    · obtain ⟨m, a, x, hop⟩ := hst
      rw [opF_plain T hc] at hs ⊢
      by_cases hwt : wantedA T o.guard = true
      · rw [if_pos hwt] at hs ⊢
        have hr : o.op.reads = false := by rw [hop]; rfl
        have key : ∀ {u : TV × Boxes × Heap}, semX o T L H = some u → ∃ L2, u = (u.1, L2, H) ∧ semX o T L H' = some (u.1, L2, H') := by
          intro u hu
          have sem : ∀ {u : TV × Boxes × Heap}, (AOp.store m a x).sem o.dst T L H = some u → ∃ L2, u = (u.1, L2, H) ∧ (AOp.store m a x).sem o.dst T L H' = some (u.1, L2, H') := by
            intro u hu
            simp only [AOp.sem, get_none h] at hu ⊢
            split at hu
            · split at hu
              · split at hu
                · rename_i hb
                  simp only [Option.some.injEq] at hu; subst hu
                  exact ⟨_, rfl, by rw [if_pos hb]⟩
                · simp at hu
              · simp at hu
            · simp at hu
            · simp at hu
          unfold semX at hu ⊢
          rw [if_neg (by simp [hr])] at hu ⊢
          rw [hop] at hu ⊢
          cases hh : o.hide with
          | nil => rw [hh] at hu; exact sem hu
          | cons j r => cases r with
            | nil =>
              rw [hh] at hu
              dsimp only at hu ⊢
              split at hu
              · rename_i e1
                split at hu
                · rename_i e2
                  obtain ⟨L2, q1, q2⟩ := sem hu
                  exact ⟨L2, q1, by rw [if_pos e2]; exact q2⟩
                · simp at hu
              · simp at hu
            | cons j2 r2 => rw [hh] at hu; exact sem hu
        cases hu : semX o T L H with
        | none => rw [hu] at hs; simp at hs
        | some u =>
          obtain ⟨L2, q1, q2⟩ := key hu
          rw [hu, q1] at hs
          simp only [Option.map_some, Option.some.injEq, Prod.mk.injEq] at hs
          obtain ⟨rfl, rfl, rfl, rfl⟩ := hs
          rw [q2]
          exact ⟨_, _, rfl, h, hw⟩
      · rw [if_neg hwt] at hs ⊢
        simp only [Option.some.injEq, Prod.mk.injEq] at hs
        obtain ⟨rfl, rfl, rfl, rfl⟩ := hs
        exact ⟨_, _, rfl, h, hw⟩
    · have hs' : ∀ m a x, o.op ≠ .store m a x := fun m a x e => hst ⟨m, a, x, e⟩
      have hcl : o.op.cl = .silent ∨ o.op.cl = .read ∨ (o.op.cl = .box ∧ o.dst.isSome = true) := by
        unfold hfOp at ho
        split at ho
        · rename_i f xs e; exact absurd e (hc f xs)
        · rename_i m a x e; exact absurd e (hs' m a x)
        · split at ho
          · rename_i e; exact .inl e
          · rename_i e; exact .inr (.inl e)
          · rename_i e; exact .inr (.inr ⟨e, ho⟩)
          · simp at ho
      rcases hcl with hcl | hcl | ⟨hcl, hd⟩
      · obtain ⟨r, hr⟩ := silent_spec (call := callT tab) T hcl
        obtain ⟨r', hr'⟩ := silent_spec (call := callN prog n) T hcl
        have : r' = r := by
          have a1 := hr .lf Heap.empty []
          have a2 := hr' .lf Heap.empty []
          rw [opF_plain T hc] at a1 a2
          rw [a1] at a2
          cases r <;> cases r' <;> simp_all
        subst this
        rw [hr] at hs
        obtain ⟨u, rfl, e2⟩ := Option.map_eq_some_iff.1 hs
        simp only [Prod.mk.injEq] at e2
        obtain ⟨rfl, rfl, rfl, rfl⟩ := e2
        exact ⟨H', om', by rw [hr']; rfl, h, hw⟩
      · rw [opF_plain T hc] at hs ⊢
        have hr := cl_reads hcl
        by_cases hwt : wantedA T o.guard = true
        · rw [if_pos hwt] at hs ⊢
          unfold semX at hs ⊢
          rw [if_pos hr] at hs ⊢
          cases hq : o.op.sem o.dst T (hideB L o.hide) (if o.nh = true then Heap.empty else H) with
          | none => rw [hq] at hs; simp at hs
          | some q =>
            obtain ⟨u, La, Ha⟩ := q
            rw [hq] at hs
            simp only [Option.map_some, Option.some.injEq, Prod.mk.injEq] at hs
            obtain ⟨rfl, rfl, rfl, rfl⟩ := hs
            have h0 : (if o.nh = true then Heap.empty else H).objs = [] := by split <;> first | rfl | exact h
            rw [read_hf hr (H' := if o.nh = true then Heap.empty else H') h0 hq]
            exact ⟨_, _, rfl, h, hw⟩
        · rw [if_neg hwt] at hs ⊢
          simp only [Option.some.injEq, Prod.mk.injEq] at hs
          obtain ⟨rfl, rfl, rfl, rfl⟩ := hs
          exact ⟨_, _, rfl, h, hw⟩
      · obtain ⟨d, hd⟩ := Option.isSome_iff_exists.1 hd
        obtain ⟨r, hr⟩ := box_spec (call := callT tab) T hcl hd
        obtain ⟨r', hr'⟩ := box_spec (call := callN prog n) T hcl hd
        have : ∀ L H om, opF (callN prog n) o T L H om = opF (callT tab) o T L H om := by
          intro L H om
          rw [opF_plain T hc, opF_plain T hc]
        rw [this, hr]
        rw [hr] at hs
        split at hs
        · simp at hs
        · simp only [Option.some.injEq, Prod.mk.injEq] at hs
          obtain ⟨rfl, rfl, rfl, rfl⟩ := hs
          exact ⟨_, _, rfl, h, hw⟩
        · simp only [Option.some.injEq, Prod.mk.injEq] at hs
          obtain ⟨rfl, rfl, rfl, rfl⟩ := hs
          exact ⟨_, _, rfl, h, hw⟩

theorem steps_hf {prog : Nat → Option AFunc} {n : Nat} {tab : Tab} (ht : TabOK prog n tab) : ∀ {l : List AOper} (_ : l.all hfOp = true) {s s' s1 : St} (_ : RHf s s') (_ : steps (callT tab) l s = some s1), ∃ s2, steps (callN prog n) l s' = some s2 ∧ RHf s1 s2
  | [], _, s, s', s1, h, hs => by simp only [steps, Option.some.injEq] at hs; subst hs; exact ⟨s', rfl, h⟩
  | o :: r, hc, s, s', s1, h, hs => by
    simp only [List.all_cons, Bool.and_eq_true] at hc
    simp only [steps] at hs ⊢
    split at hs
    · rename_i sm e
      have : ∃ sn, step (callN prog n) o s' = some sn ∧ RHf sm sn := by
        unfold step at e ⊢
        split at e
        · rename_i v L H om e1
          simp only [Option.some.injEq] at e; subst e
          rw [h.T, h.L]
          obtain ⟨H2, om2, e2, e3, e4⟩ := opF_hf ht hc.1 (om' := s'.om) h.o h.w e1
          rw [e2]
          exact ⟨_, rfl, rfl, rfl, e3, e4⟩
        · simp at e
      obtain ⟨sn, e1, e2⟩ := this
      rw [e1]
      exact steps_hf ht hc.2 e2 hs
    · simp at hs
def RHx (p q : Ex × St) : Prop := p.1 = q.1 ∧ RHf p.2 q.2
theorem loop_hf {f g : St → Option (Ex × St)} (hf : ∀ s s' r, RHf s s' → f s = some r → ∃ r', g s' = some r' ∧ RHx r r') : ∀ (n : Nat) {s s' : St} {r : Ex × St}, RHf s s' → loopN f n s = some r → ∃ r', loopN g n s' = some r' ∧ RHx r r'
  | 0, s, s', r, h, hs => by simp [loopN] at hs
  | n + 1, s, s', r, h, hs => by
    simp only [loopN] at hs ⊢
    cases he : f s with
    | none => rw [he] at hs; simp at hs
    | some p =>
      obtain ⟨e, t⟩ := p
      obtain ⟨⟨e', t'⟩, q1, q2, q3⟩ := hf s s' _ h he
      simp only at q2 q3
      subst q2
      rw [he] at hs
      rw [q1]
      cases e with
      | normal => exact loop_hf hf n q3 hs
      | exit i => simp only [Option.some.injEq] at hs; subst hs; exact ⟨_, rfl, rfl, q3⟩
      | ret => simp only [Option.some.injEq] at hs; subst hs; exact ⟨_, rfl, rfl, q3⟩
theorem exec_hf {prog : Nat → Option AFunc} {n : Nat} {tab : Tab} (ht : TabOK prog n tab) (k : Nat) : ∀ {c : ACode} (_ : hfCode c = true) {s s' : St} {r : Ex × St}, RHf s s' → exec (callT tab) k c s = some r → ∃ r', exec (callN prog n) k c s' = some r' ∧ RHx r r' := by
  intro c
  induction c with
  | skip => intro _ s s' r h hs; simp only [exec, Option.some.injEq] at hs; subst hs; exact ⟨_, rfl, rfl, h⟩
  | ops l d =>
    intro hc s s' r h hs
    simp only [exec] at hs ⊢
    obtain ⟨sf, e1, rfl⟩ := Option.map_eq_some_iff.1 hs
    obtain ⟨s2, e2, e3⟩ := steps_hf ht hc h e1
    rw [e2]
    exact ⟨_, rfl, rfl, e3⟩
  | frz ks => intro hc; simp [hfCode] at hc
  | seq a b iha ihb =>
    intro hc s s' r h hs
    simp only [hfCode, Bool.and_eq_true] at hc
    simp only [exec] at hs ⊢
    cases he : exec (callT tab) k a s with
    | none => rw [he] at hs; simp at hs
    | some p =>
      obtain ⟨e, t⟩ := p
      obtain ⟨⟨e', t'⟩, q1, q2, q3⟩ := iha hc.1 h he
      simp only at q2 q3
      subst q2
      rw [he] at hs
      rw [q1]
      cases e with
      | normal => exact ihb hc.2 q3 hs
      | exit i => simp only [Option.some.injEq] at hs; subst hs; exact ⟨_, rfl, rfl, q3⟩
      | ret => simp only [Option.some.injEq] at hs; subst hs; exact ⟨_, rfl, rfl, q3⟩
  | cond p a b iha ihb =>
    intro hc s s' r h hs
    simp only [hfCode, Bool.and_eq_true] at hc
    simp only [exec] at hs ⊢
    rw [h.T]
    split at hs
    · exact iha hc.1 h hs
    · exact ihb hc.2 h hs
    · simp at hs
  | block i b ih =>
    intro hc s s' r h hs
    simp only [exec] at hs ⊢
    cases he : exec (callT tab) k b s with
    | none => rw [he] at hs; simp at hs
    | some p =>
      obtain ⟨e, t⟩ := p
      obtain ⟨⟨e', t'⟩, q1, q2, q3⟩ := ih hc h he
      simp only at q2 q3
      subst q2
      rw [he] at hs
      rw [q1]
      cases e with
      | normal => simp only [Option.some.injEq] at hs; subst hs; exact ⟨_, rfl, rfl, q3⟩
      | exit j =>
        dsimp only at hs ⊢
        by_cases hj : Nat.beq j i = true
        · rw [if_pos hj] at hs ⊢; simp only [Option.some.injEq] at hs; subst hs; exact ⟨_, rfl, rfl, q3⟩
        · rw [if_neg hj] at hs ⊢; simp only [Option.some.injEq] at hs; subst hs; exact ⟨_, rfl, rfl, q3⟩
      | ret => simp only [Option.some.injEq] at hs; subst hs; exact ⟨_, rfl, rfl, q3⟩
  | loop b ih =>
    intro hc s s' r h hs
    exact loop_hf (fun s s' r h hs => ih hc h hs) k h hs
  | exit i => intro _ s s' r h hs; simp only [exec, Option.some.injEq] at hs; subst hs; exact ⟨_, rfl, rfl, h⟩
  | ret => intro _ s s' r h hs; simp only [exec, Option.some.injEq] at hs; subst hs; exact ⟨_, rfl, rfl, h⟩

theorem resultsA_hf {s s' : St} (h : RHf s s') : ∀ {rs : List ARes} {l : List AV}, resultsA s rs = some l → resultsA s' rs = some l
  | [], l, hs => hs
  | r :: rs, l, hs => by
    simp only [resultsA] at hs ⊢
    split at hs
    · rename_i a l' e1 e2
      have : resultA s' r = some a := by
        cases r with
        | tmp j => simp only [resultA, h.T] at e1 ⊢; exact e1
        | cell j n agg =>
          simp only [resultA, h.T, h.L] at e1 ⊢
          split at e1
          · rename_i cs e3; rw [cellsAt_hf h.o e3]; exact e1
          · simp at e1
      rw [this, resultsA_hf h e2]
      exact hs
    · simp at hs
/-- The run by a table. -/
noncomputable def nodeX (tab : Tab) (n : Nat) (f : AFunc) (args : List AV) : Option AV :=
  match finishX f (execX (callT tab) n f.body ⟨startT args 0 .lf, .lf, Heap.empty, []⟩) with
  | some (v, _, _) => some v
  | none => none
theorem Ev.node {prog : Nat → Option AFunc} {n g : Nat} {f : AFunc} (hg : prog g = some f) {tab : Tab} (ht : TabOK prog n tab) (hc : hfCode f.body = true) (hz : f.frz = false) {args : List AV} (hl : Nat.beq args.length f.np = true) {v : AV} (hx : nodeX tab n f args = some v) : Ev prog (n + 1) g args v := by
  intro H om hw
  unfold nodeX at hx
  rw [finishX_eq f (execX_rel (callT tab) n f.body (start_RX args Heap.empty []))] at hx
  simp only [callN, hg, hl, if_true]
  cases he : exec (callT tab) n f.body (start args Heap.empty []) with
  | none => rw [he] at hx; simp [finish] at hx
  | some r =>
    obtain ⟨e, s⟩ := r
    have h0 : RHf (start args Heap.empty []) (start args H om) := ⟨rfl, rfl, rfl, hw⟩
    obtain ⟨⟨e', s'⟩, q1, q2, q3⟩ := exec_hf ht n hc h0 he
    simp only at q2 q3
    subst q2
    rw [he] at hx
    rw [q1]
    have key : ∀ e : Ex, (∀ i, e ≠ .exit i) → (match finish f (some (e, s)) with | some (v, _, _) => some v | none => none) = some v → ∃ H' om', finish f (some (e, s')) = some (v, H', om') ∧ H'.wf := by
      intro e hne hx
      have e1 : ∀ s : St, finish f (some (e, s)) = match resultsA s f.results with
          | some l => some (oneOf l, s.H, s.om)
          | none => none := by
        intro s
        cases e with
        | exit i => exact absurd rfl (hne i)
        | normal => simp only [finish, hz]; cases resultsA s f.results <;> rfl
        | ret => simp only [finish, hz]; cases resultsA s f.results <;> rfl
      rw [e1] at hx ⊢
      cases hr : resultsA s f.results with
      | none => rw [hr] at hx; simp at hx
      | some l =>
        rw [hr] at hx
        rw [resultsA_hf q3 hr]
        simp only [Option.some.injEq] at hx
        subst hx
        exact ⟨_, _, rfl, q3.w⟩
    cases e with
    | exit i => simp [finish] at hx
    | normal => exact key .normal (by simp) hx
    | ret => exact key .ret (by simp) hx
theorem TabOK.nil (prog : Nat → Option AFunc) (n : Nat) : TabOK prog n [] := fun e h => by simp at h
theorem TabOK.cons {prog : Nat → Option AFunc} {n : Nat} {tab : Tab} {g : Nat} {args : List AV} {v : AV} (h : Ev prog n g args v) (ht : TabOK prog n tab) : TabOK prog n ((g, args, v) :: tab) := fun e he => by
  rcases List.mem_cons.1 he with rfl | he
  · exact h
  · exact ht e he
/-- A law's run. -/
theorem Ev.run {prog : Nat → Option AFunc} {n g : Nat} {args : List AV} {v : AV} (h : Ev prog n g args v) (om : List Nat) : ∃ h' om', callN prog n g args Heap.empty om = some (v, h', om') := by
  obtain ⟨H', om', h1, _⟩ := h Heap.empty om (fun i _ => rfl)
  exact ⟨H', om', h1⟩
end Go.Am
