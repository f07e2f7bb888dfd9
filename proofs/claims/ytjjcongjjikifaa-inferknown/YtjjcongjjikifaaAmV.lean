/- Two runs that differ in some small whole numbers, which are read by their remainders alone, go alike. -/
import Derived.Test.YtjjcongjjikifaaAmY
import Derived.Test.YtjjcongjjikifaaAmF
set_option linter.unusedVariables false
set_option linter.unusedSimpArgs false
namespace Go.Am

abbrev Wk := List (Nat × Nat)
def wm : Wk → Nat → Option Nat
  | [], _ => none
  | (s, m) :: r, k => if Nat.beq s k then some m else wm r k

def TW (M : Nat) (t t' : TV) : Prop := t = t' ∨ ∃ kd a b, t = .v (.int kd a) ∧ t' = .v (.int kd b) ∧ (0 ≤ a ∧ a ≤ 255) ∧ (0 ≤ b ∧ b ≤ 255) ∧ a % (M : Int) = b % (M : Int)
/-- Slots that are not named are equal; those of the modulus 0 may hold anything. -/
def SW (W : Wk) (k : Nat) (t t' : TV) : Prop :=
  match wm W k with
  | none => t = t'
  | some M => M = 0 ∨ TW M t t'
theorem SW.refl (W : Wk) (k : Nat) (t : TV) : SW W k t t := by
  unfold SW; cases wm W k with
  | none => rfl
  | some M => exact .inr (.inl rfl)
structure RW (W : Wk) (s s' : St) : Prop where
  T : ∀ k, SW W k (lget s.T k) (lget s'.T k)
  L : s.L = s'.L
  H : s.H = s'.H
  om : s.om = s'.om

def strong (W : Wk) (ks : List Nat) : Bool := ks.all fun k => (wm W k).isNone
theorem RW.ag {W : Wk} {s s' : St} (h : RW W s s') {ks : List Nat} (hk : strong W ks = true) : Ag s.T s'.T ks := by
  intro k hm
  have := List.all_eq_true.1 hk k hm
  have h2 := h.T k
  unfold SW at h2
  cases hw : wm W k with
  | none => rw [hw] at h2; exact h2
  | some M => rw [hw] at this; simp at this
theorem RW.put {W : Wk} {s s' : St} (h : RW W s s') {d : Option Nat} {v v' : TV} (hv : ∀ k, d = some k → SW W k v v') : ∀ k, SW W k (lget (putT s.T d v) k) (lget (putT s'.T d v') k) := by
  intro k
  cases d with
  | none => exact h.T k
  | some j =>
    simp only [putT, lget_lset]
    by_cases hj : k = j
    · subst hj; rw [if_pos rfl, if_pos rfl]; exact hv k rfl
    · rw [if_neg hj, if_neg hj]; exact h.T k

def wkOp (W : Wk) (o : AOper) : Bool :=
  strong W (gtmps o.guard) && (strong W o.op.tmps || (match o.dst with
    | none => false
    | some d => match o.op with
      | .mv (.t w) => decide ((wm W d).isSome ∧ wm W w = wm W d)
      | .cint k (.t w) => decide ((wm W d).isSome ∧ wm W w = wm W d) && Nat.ble 255 (kMax k) && decide (wm W d ≠ some 0)
      | .bin .sc .rem (.t w) (.c (.int _ c)) => match wm W w with
        | some M => decide (0 < c) && decide ((M : Int) % c = 0) && decide (M ≠ 0)
        | none => false
      | _ => false))

theorem tmod_same {a b c : Int} {M : Nat} (ha : 0 ≤ a) (hb : 0 ≤ b) (hc : 0 < c) (hM : (M : Int) % c = 0) (h : a % (M : Int) = b % (M : Int)) : a.tmod c = b.tmod c := by
  rw [Int.tmod_eq_emod_of_nonneg ha, Int.tmod_eq_emod_of_nonneg hb]
  have hd : c ∣ (M : Int) := Int.dvd_of_emod_eq_zero hM
  rw [← Int.emod_emod_of_dvd a hd, ← Int.emod_emod_of_dvd b hd, h]

def RVs (W : Wk) (d : Option Nat) (p q : TV × Boxes × Heap × List Nat) : Prop := (∀ k, d = some k → SW W k p.1 q.1) ∧ p.2 = q.2

theorem wkOp_rel {W : Wk} {call : Caller} {o : AOper} (ho : wkOp W o = true) {s s' : St} (h : RW W s s') : RO (RVs W o.dst) (opF call o s.T s.L s.H s.om) (opF call o s'.T s'.L s'.H s'.om) := by
  simp only [wkOp, Bool.and_eq_true, Bool.or_eq_true] at ho
  obtain ⟨hg, ho⟩ := ho
  rw [← h.L, ← h.H, ← h.om]
  have same : ∀ r : Option (TV × Boxes × Heap × List Nat), RO (RVs W o.dst) r r := fun r => by
    cases r with
    | none => trivial
    | some q => exact ⟨fun k _ => SW.refl W k _, rfl⟩
  rcases ho with ho | ho
  · have hag : Ag s.T s'.T o.tmps := by
      intro k hk
      simp only [AOper.tmps, List.mem_append] at hk
      rcases hk with hk | hk
      · exact h.ag ho k hk
      · exact h.ag hg k hk
    rw [opF_congr hag]
    exact same _
  · have hw : wantedA s.T o.guard = wantedA s'.T o.guard := by
      have hag := h.ag hg
      unfold wantedA
      split
      · rfl
      · rename_i k b e
        rw [e] at hag
        rw [hag k (by simp [gtmps])]
    split at ho
    · simp at ho
    · rename_i d hd
      have hcall : ∀ f xs, o.op ≠ .call f xs := by
        intro f xs e; rw [e] at ho; simp at ho
      have hstore : ∀ n a x, o.op ≠ .store n a x := by
        intro f xs x e; rw [e] at ho; simp at ho
      have hread : o.op.reads = false := by
        split at ho
        · rename_i e; rw [e]; rfl
        · rename_i e; rw [e]; rfl
        · rename_i e; rw [e]; rfl
        · simp at ho
      rw [opF_plain s.T hcall, opF_plain s'.T hcall, hw, semX_notread s.T hread hstore, semX_notread s'.T hread hstore]
      cases wantedA s'.T o.guard with
      | false => exact same _
      | true =>
        simp only [if_true]
        split at ho
        · rename_i w e
          rw [e]
          have ho := of_decide_eq_true ho
          simp only [AOp.sem, Option.map_some]
          refine ⟨fun k hk => ?_, rfl⟩
          have hk : k = d := by rw [hd] at hk; simpa using hk.symm
          subst hk
          have := h.T w
          unfold SW at this ⊢
          rw [ho.2] at this
          exact this
        · rename_i kd w e
          rw [e]
          simp only [Bool.and_eq_true] at ho
          have ho1 := of_decide_eq_true ho.1.1
          have ho2 := Nat.le_of_ble_eq_true ho.1.2
          have ho3 := of_decide_eq_true ho.2
          have ht := h.T w
          unfold SW at ht
          rw [ho1.2] at ht
          obtain ⟨M, hM⟩ := Option.isSome_iff_exists.1 ho1.1
          rw [hM] at ht ho3
          simp only [AOp.sem, ev]
          rcases ht with rfl | ht | ⟨kd', a, b, e1, e2, ra, rb, hm⟩
          · exact absurd rfl ho3
          · rw [ht]; exact same _
          · rw [e1, e2]
            simp only [Option.map_some]
            refine ⟨fun k hk => ?_, rfl⟩
            have hk : k = d := by rw [hd] at hk; simpa using hk.symm
            subst hk
            unfold SW
            rw [hM]
            have wa : kd.wrap a = a := by
              obtain ⟨n, rfl⟩ : ∃ n : Nat, a = n := ⟨a.toNat, by omega⟩
              exact wrap_pos kd n (by omega)
            have wb : kd.wrap b = b := by
              obtain ⟨n, rfl⟩ : ∃ n : Nat, b = n := ⟨b.toNat, by omega⟩
              exact wrap_pos kd n (by omega)
            exact .inr (.inr ⟨kd, a, b, by rw [wa], by rw [wb], ra, rb, hm⟩)
        · rename_i w kc c e
          rw [e]
          cases hM : wm W w with
          | none => rw [hM] at ho; simp at ho
          | some M =>
            rw [hM] at ho
            simp only [Bool.and_eq_true, decide_eq_true_eq] at ho
            have ht := h.T w
            unfold SW at ht
            rw [hM] at ht
            simp only [AOp.sem, eva, ev]
            rcases ht with ht | ht | ⟨kd', a, b, e1, e2, ra, rb, hm⟩
            · exact absurd ht ho.2
            · rw [ht]; exact same _
            · rw [e1, e2]
              simp only [binOp]
              by_cases hk : kd' = kc
              · subst hk
                have hc0 : ¬ c = 0 := by omega
                simp only [if_true, binInt, hc0, if_false, ret1, Option.map_some]
                rw [tmod_same ra.1 rb.1 ho.1.1 ho.1.2 hm]
                exact same _
              · simp only [hk, if_false, ret1, Option.map_none]; exact same _
        · simp at ho
theorem wkStep_rel {W : Wk} {call : Caller} {o : AOper} (ho : wkOp W o = true) {s s' : St} (h : RW W s s') : RO (RW W) (step call o s) (step call o s') := by
  have h1 := wkOp_rel (call := call) ho h
  unfold step
  cases e1 : opF call o s.T s.L s.H s.om with
  | none => cases e2 : opF call o s'.T s'.L s'.H s'.om with
    | none => trivial
    | some q => rw [e1, e2] at h1; exact h1.elim
  | some p => cases e2 : opF call o s'.T s'.L s'.H s'.om with
    | none => rw [e1, e2] at h1; exact h1.elim
    | some q =>
      rw [e1, e2] at h1
      obtain ⟨v, L, H, om⟩ := p
      obtain ⟨v', L', H', om'⟩ := q
      obtain ⟨h2, h3⟩ := h1
      simp only [Prod.mk.injEq] at h3
      obtain ⟨rfl, rfl, rfl⟩ := h3
      exact ⟨h.put h2, rfl, rfl, rfl⟩
theorem wkSteps_rel {W : Wk} {call : Caller} : ∀ {l : List AOper} (_ : l.all (wkOp W) = true) {s s' : St}, RW W s s' → RO (RW W) (steps call l s) (steps call l s')
  | [], _, s, s', h => h
  | o :: r, ho, s, s', h => by
    simp only [List.all_cons, Bool.and_eq_true] at ho
    have h1 := wkStep_rel (call := call) ho.1 h
    unfold steps
    cases e1 : step call o s with
    | none => cases e2 : step call o s' with
      | none => trivial
      | some q => rw [e1, e2] at h1; exact h1.elim
    | some p => cases e2 : step call o s' with
      | none => rw [e1, e2] at h1; exact h1.elim
      | some q => rw [e1, e2] at h1; exact wkSteps_rel ho.2 h1

def wkCode (W : Wk) : ACode → Bool
  | .skip => true
  | .ops l _ => l.all (wkOp W)
  | .frz ks => strong W ks
  | .seq a b => wkCode W a && wkCode W b
  | .cond c a b => strong W c.tmps && wkCode W a && wkCode W b
  | .block _ b => wkCode W b
  | .loop b => wkCode W b
  | .exit _ => true
  | .ret => true

def REW (W : Wk) (p q : Ex × St) : Prop := p.1 = q.1 ∧ RW W p.2 q.2

theorem wkFrz_rel {W : Wk} : ∀ {ks : List Nat} (_ : strong W ks = true) {s s' : St}, RW W s s' → RO (RW W) (frzT s ks) (frzT s' ks)
  | [], _, s, s', h => h
  | k :: ks, hk, s, s', h => by
    simp only [strong, List.all_cons, Bool.and_eq_true] at hk
    have hs : lget s.T k = lget s'.T k := by
      have := h.T k
      unfold SW at this
      cases hw : wm W k with
      | none => rw [hw] at this; exact this
      | some M => rw [hw] at hk; simp at hk
    unfold frzT
    rw [hs]
    cases lget s'.T k with
    | v a =>
      dsimp only
      rw [h.H]
      refine wkFrz_rel hk.2 ⟨?_, h.L, rfl, h.om⟩
      exact h.put (d := some k) (fun j hj => SW.refl W j _)
    | bx => trivial
    | st => trivial

theorem wkLoop_rel {W : Wk} {f : St → Option (Ex × St)} (hf : ∀ s s', RW W s s' → RO (REW W) (f s) (f s')) : ∀ (n : Nat) {s s' : St}, RW W s s' → RO (REW W) (loopN f n s) (loopN f n s')
  | 0, s, s', h => trivial
  | n + 1, s, s', h => by
    have h1 := hf s s' h
    unfold loopN
    cases e1 : f s with
    | none => cases e2 : f s' with
      | none => trivial
      | some q => rw [e1, e2] at h1; exact h1.elim
    | some p => cases e2 : f s' with
      | none => rw [e1, e2] at h1; exact h1.elim
      | some q =>
        rw [e1, e2] at h1
        obtain ⟨e, t⟩ := p
        obtain ⟨e', t'⟩ := q
        obtain ⟨h2, h3⟩ := h1
        simp only at h2 h3
        subst h2
        cases e with
        | normal => exact wkLoop_rel hf n h3
        | exit i => exact ⟨rfl, h3⟩
        | ret => exact ⟨rfl, h3⟩

theorem wkExec_rel {W : Wk} {call : Caller} {n : Nat} : ∀ {c : ACode} (_ : wkCode W c = true) {s s' : St}, RW W s s' → RO (REW W) (exec call n c s) (exec call n c s') := by
  intro c
  induction c with
  | skip => intro _ s s' h; exact ⟨rfl, h⟩
  | ops l d =>
    intro hc s s' h
    have h1 := wkSteps_rel (call := call) hc h
    show RO (REW W) ((steps call l s).map fun t => (.normal, t)) ((steps call l s').map fun t => (.normal, t))
    cases e1 : steps call l s <;> cases e2 : steps call l s' <;> rw [e1, e2] at h1 <;> first | trivial | exact h1.elim | exact ⟨rfl, h1⟩
  | frz ks =>
    intro hc s s' h
    have h1 := wkFrz_rel hc h
    show RO (REW W) ((frzT s ks).map fun t => (.normal, t)) ((frzT s' ks).map fun t => (.normal, t))
    cases e1 : frzT s ks <;> cases e2 : frzT s' ks <;> rw [e1, e2] at h1 <;> first | trivial | exact h1.elim | exact ⟨rfl, h1⟩
  | seq a b iha ihb =>
    intro hc s s' h
    simp only [wkCode, Bool.and_eq_true] at hc
    have h1 := iha hc.1 h
    simp only [exec]
    cases e1 : exec call n a s with
    | none => cases e2 : exec call n a s' with
      | none => trivial
      | some q => rw [e1, e2] at h1; exact h1.elim
    | some p => cases e2 : exec call n a s' with
      | none => rw [e1, e2] at h1; exact h1.elim
      | some q =>
        rw [e1, e2] at h1
        obtain ⟨e, t⟩ := p
        obtain ⟨e', t'⟩ := q
        obtain ⟨h2, h3⟩ := h1
        simp only at h2 h3
        subst h2
        cases e with
        | normal => exact ihb hc.2 h3
        | exit i => exact ⟨rfl, h3⟩
        | ret => exact ⟨rfl, h3⟩
  | cond p a b iha ihb =>
    intro hc s s' h
    simp only [wkCode, Bool.and_eq_true] at hc
    have he := ev_congr (h.ag hc.1.1)
    simp only [exec, he]
    split
    · exact iha hc.1.2 h
    · exact ihb hc.2 h
    · trivial
  | block i b ih =>
    intro hc s s' h
    have h1 := ih hc h
    simp only [exec]
    cases e1 : exec call n b s with
    | none => cases e2 : exec call n b s' with
      | none => trivial
      | some q => rw [e1, e2] at h1; exact h1.elim
    | some p => cases e2 : exec call n b s' with
      | none => rw [e1, e2] at h1; exact h1.elim
      | some q =>
        rw [e1, e2] at h1
        obtain ⟨e, t⟩ := p
        obtain ⟨e', t'⟩ := q
        obtain ⟨h2, h3⟩ := h1
        simp only at h2 h3
        subst h2
        cases e with
        | normal => exact ⟨rfl, h3⟩
        | exit j =>
          dsimp only
          by_cases hj : Nat.beq j i = true
          · rw [if_pos hj, if_pos hj]; exact ⟨rfl, h3⟩
          · rw [if_neg hj, if_neg hj]; exact ⟨rfl, h3⟩
        | ret => exact ⟨rfl, h3⟩
  | loop b ih =>
    intro hc s s' h
    exact wkLoop_rel (fun s s' h => ih hc h) n h
  | exit i => intro _ s s' h; exact ⟨rfl, h⟩
  | ret => intro _ s s' h; exact ⟨rfl, h⟩

def resTmps : List ARes → List Nat
  | [] => []
  | .tmp k :: r => k :: resTmps r
  | .cell k _ _ :: r => k :: resTmps r
theorem wkRes {W : Wk} {s s' : St} (h : RW W s s') : ∀ {rs : List ARes}, strong W (resTmps rs) = true → resultsA s rs = resultsA s' rs
  | [], _ => rfl
  | r :: rs, hk => by
    have key : ∀ k, strong W (k :: resTmps rs) = true → lget s.T k = lget s'.T k ∧ strong W (resTmps rs) = true := by
      intro k hk
      refine ⟨h.ag hk k (by simp), ?_⟩
      simp only [strong, List.all_cons, Bool.and_eq_true] at hk
      exact hk.2
    unfold resultsA
    cases r with
    | tmp k =>
      obtain ⟨h1, h2⟩ := key k hk
      rw [wkRes h h2]
      simp only [resultA, h1]
    | cell k n agg =>
      obtain ⟨h1, h2⟩ := key k hk
      rw [wkRes h h2]
      simp only [resultA, h1, h.L, h.H]

/-- Arguments that differ in weak slots only. -/
def ArgW (W : Wk) : Nat → List AV → List AV → Prop
  | _, [], [] => True
  | i, a :: r, b :: s => SW W i (.v a) (.v b) ∧ ArgW W (i + 1) r s
  | _, _, _ => False
theorem argW_get {W : Wk} : ∀ {i : Nat} {as bs : List AV}, ArgW W i as bs → as.length = bs.length ∧ ∀ k, SW W (i + k) (lget (as.map .v) k) (lget (bs.map .v) k)
  | i, [], [], _ => ⟨rfl, fun k => SW.refl W _ _⟩
  | i, [], _ :: _, h => h.elim
  | i, _ :: _, [], h => h.elim
  | i, a :: as, b :: bs, h => by
    obtain ⟨h1, h2⟩ := h
    obtain ⟨h3, h4⟩ := argW_get h2
    refine ⟨by simp [h3], fun k => ?_⟩
    cases k with
    | zero => exact h1
    | succ k =>
      have := h4 k
      have e : i + 1 + k = i + (k + 1) := by omega
      rw [e] at this
      exact this
theorem weak_call {prog : Nat → Option AFunc} {g : Nat} {f : AFunc} (hg : prog g = some f) {W : Wk} (hc : wkCode W f.body = true) (hr : strong W (resTmps f.results) = true) {as bs : List AV} (ha : ArgW W 0 as bs) (n : Nat) (h : Heap) (om : List Nat) :
    callN prog (n + 1) g as h om = callN prog (n + 1) g bs h om := by
  obtain ⟨hl, hget⟩ := argW_get ha
  simp only [callN, hg, hl]
  split
  · have h0 : RW W (start as h om) (start bs h om) := ⟨fun k => by have := hget k; rw [Nat.zero_add] at this; exact this, rfl, rfl, rfl⟩
    have h1 := wkExec_rel (call := callN prog n) (n := n) hc h0
    cases e1 : exec (callN prog n) n f.body (start as h om) with
    | none => cases e2 : exec (callN prog n) n f.body (start bs h om) with
      | none => rfl
      | some q => rw [e1, e2] at h1; exact h1.elim
    | some p => cases e2 : exec (callN prog n) n f.body (start bs h om) with
      | none => rw [e1, e2] at h1; exact h1.elim
      | some q =>
        rw [e1, e2] at h1
        obtain ⟨e, t⟩ := p
        obtain ⟨e', t'⟩ := q
        obtain ⟨h2, h3⟩ := h1
        simp only at h2 h3
        subst h2
        have hres := wkRes h3 hr
        cases e with
        | exit i => rfl
        | normal => simp only [finish, hres, h3.H, h3.om]
        | ret => simp only [finish, hres, h3.H, h3.om]
  · rfl

/-! ### the first pieces of a function's code -/
def heads : Nat → ACode → List ACode
  | 0, _ => []
  | n + 1, .seq a b => a :: heads n b
  | _ + 1, _ => []
def rest : Nat → ACode → ACode
  | 0, c => c
  | n + 1, .seq a b => rest n b
  | _ + 1, c => c
def runHeads (call : Caller) (n : Nat) : List ACode → St → Option St
  | [], s => some s
  | c :: r, s => match exec call n c s with
    | some (.normal, s') => runHeads call n r s'
    | _ => none
theorem exec_heads {call : Caller} {n : Nat} : ∀ (k : Nat) (c : ACode) {s s' : St}, runHeads call n (heads k c) s = some s' → exec call n c s = exec call n (rest k c) s'
  | 0, c, s, s', h => by simp only [heads, runHeads, Option.some.injEq] at h; subst h; rfl
  | k + 1, c, s, s', h => by
    cases c with
    | seq a b =>
      simp only [heads, runHeads] at h
      split at h
      · rename_i s1 e1
        simp only [exec, e1]
        exact exec_heads k b h
      · simp at h
    | _ => simp only [heads, runHeads, Option.some.injEq] at h; subst h; rfl
/-- Two calls whose first pieces come to states that differ in weak slots only. -/
theorem weak_heads {prog : Nat → Option AFunc} {g : Nat} {f : AFunc} (hg : prog g = some f) {W : Wk} (k : Nat) (hc : wkCode W (rest k f.body) = true) (hr : strong W (resTmps f.results) = true) {as bs : List AV} (hl : as.length = bs.length) {n : Nat} {h : Heap} {om : List Nat} {s s' : St}
    (h1 : runHeads (callN prog n) n (heads k f.body) (start as h om) = some s) (h2 : runHeads (callN prog n) n (heads k f.body) (start bs h om) = some s') (hs : RW W s s') : callN prog (n + 1) g as h om = callN prog (n + 1) g bs h om := by
  simp only [callN, hg, hl]
  split
  · rw [exec_heads k f.body h1, exec_heads k f.body h2]
    have h1 := wkExec_rel (call := callN prog n) (n := n) hc hs
    cases e1 : exec (callN prog n) n (rest k f.body) s with
    | none => cases e2 : exec (callN prog n) n (rest k f.body) s' with
      | none => rfl
      | some q => rw [e1, e2] at h1; exact h1.elim
    | some p => cases e2 : exec (callN prog n) n (rest k f.body) s' with
      | none => rw [e1, e2] at h1; exact h1.elim
      | some q =>
        rw [e1, e2] at h1
        obtain ⟨e, t⟩ := p
        obtain ⟨e', t'⟩ := q
        obtain ⟨h2, h3⟩ := h1
        simp only at h2 h3
        subst h2
        have hres := wkRes h3 hr
        cases e with
        | exit i => rfl
        | normal => simp only [finish, hres, h3.H, h3.om]
        | ret => simp only [finish, hres, h3.H, h3.om]
  · rfl
/-- A slot is laid over by 0: what it held is told no more. -/
def blank : List Nat → List TV → List TV
  | [], T => T
  | k :: r, T => lset (blank r T) k .undef
theorem blank_get : ∀ (ks : List Nat) (T : List TV) (k : Nat), lget (blank ks T) k = if k ∈ ks then .undef else lget T k
  | [], T, k => by simp [blank]
  | j :: ks, T, k => by
    simp only [blank, lget_lset, blank_get ks T k, List.mem_cons]
    by_cases hj : k = j
    · simp [hj]
    · simp [hj]
def blankS (ks : List Nat) (s : St) : St := { s with T := blank ks s.T }
theorem RW.of_blank {ks : List Nat} {s s' : St} (h : blankS ks s = blankS ks s') : RW (ks.map fun k => (k, 0)) s s' := by
  simp only [blankS, St.mk.injEq] at h
  obtain ⟨h1, h2, h3, h4⟩ := h
  refine ⟨fun k => ?_, h2, h3, h4⟩
  have hk := congrArg (fun T => lget T k) h1
  simp only [blank_get] at hk
  have key : ∀ (ks : List Nat), (wm (ks.map fun k => (k, 0)) k = if k ∈ ks then some 0 else none) := by
    intro ks
    induction ks with
    | nil => rfl
    | cons j ks ih =>
      simp only [List.map_cons, wm, ih, List.mem_cons]
      by_cases hj : k = j
      · subst hj; simp
      · have : Nat.beq j k = false := by
          cases hb : Nat.beq j k with
          | false => rfl
          | true => exact absurd (Nat.eq_of_beq_eq_true hb).symm hj
        simp [this, hj]
  unfold SW
  rw [key]
  by_cases hm : k ∈ ks
  · rw [if_pos hm]; exact .inl rfl
  · rw [if_neg hm] at hk ⊢
    rw [if_neg hm] at hk
    exact hk

/-! ### the same for the kernel -/
noncomputable def runHeadsX (call : Caller) (n : Nat) (l : List ACode) : SX → Option SX := @List.rec ACode (fun _ => SX → Option SX) (fun x => some x) (fun c _ ih x => match execX call n c x with
  | some (.normal, x') => ih x'
  | _ => none) l
theorem runHeadsX_rel (call : Caller) (n : Nat) : ∀ (l : List ACode) {s : St} {x : SX}, RX s x → RO RX (runHeads call n l s) (runHeadsX call n l x)
  | [], s, x, h => h
  | c :: r, s, x, h => by
    have h1 := execX_rel call n c h
    show RO RX (match exec call n c s with | some (.normal, s') => runHeads call n r s' | _ => none) (match execX call n c x with | some (.normal, x') => runHeadsX call n r x' | _ => none)
    cases e1 : exec call n c s with
    | none => cases e2 : execX call n c x with
      | none => trivial
      | some q => rw [e1, e2] at h1; exact h1.elim
    | some p => cases e2 : execX call n c x with
      | none => rw [e1, e2] at h1; exact h1.elim
      | some q =>
        rw [e1, e2] at h1
        obtain ⟨e, t⟩ := p
        obtain ⟨e', t'⟩ := q
        obtain ⟨h2, h3⟩ := h1
        simp only at h2 h3
        subst h2
        cases e with
        | normal => exact runHeadsX_rel call n r h3
        | exit i => trivial
        | ret => trivial
noncomputable def blankX (ks : List Nat) (x : SX) : SX := @List.rec Nat (fun _ => SX → SX) (fun x => x) (fun k _ ih x => ih ⟨tsetR x.T k .undef, x.L, x.H, x.om⟩) ks x
theorem blankX_get : ∀ (ks : List Nat) (x : SX) (k : Nat), tgetR (blankX ks x).T k = if k ∈ ks then .undef else tgetR x.T k
  | [], x, k => by simp [blankX]
  | j :: ks, x, k => by
    show tgetR (blankX ks ⟨tsetR x.T j .undef, x.L, x.H, x.om⟩).T k = _
    rw [blankX_get ks]
    simp only [tset_get, List.mem_cons]
    by_cases h1 : k ∈ ks
    · simp [h1]
    · by_cases h2 : k = j <;> simp [h1, h2]
theorem blankX_rest : ∀ (ks : List Nat) (x : SX), (blankX ks x).L = x.L ∧ (blankX ks x).H = x.H ∧ (blankX ks x).om = x.om
  | [], x => ⟨rfl, rfl, rfl⟩
  | j :: ks, x => blankX_rest ks ⟨tsetR x.T j .undef, x.L, x.H, x.om⟩
theorem RW.of_blankX {ks : List Nat} {s s' : St} {x x' : SX} (hs : RX s x) (hs' : RX s' x') (h : blankX ks x = blankX ks x') : RW (ks.map fun k => (k, 0)) s s' := by
  have b1 := blankX_rest ks x
  have b2 := blankX_rest ks x'
  refine ⟨fun k => ?_, ?_, ?_, ?_⟩
  · have hk := congrArg (fun y => tgetR y.T k) h
    simp only [blankX_get] at hk
    have key : ∀ (ks : List Nat), (wm (ks.map fun k => (k, 0)) k = if k ∈ ks then some 0 else none) := by
      intro ks
      induction ks with
      | nil => rfl
      | cons j ks ih =>
        simp only [List.map_cons, wm, ih, List.mem_cons]
        by_cases hj : k = j
        · subst hj; simp
        · have : Nat.beq j k = false := by
            cases hb : Nat.beq j k with
            | false => rfl
            | true => exact absurd (Nat.eq_of_beq_eq_true hb).symm hj
          simp [this, hj]
    unfold SW
    rw [key]
    by_cases hm : k ∈ ks
    · rw [if_pos hm]; exact .inl rfl
    · rw [if_neg hm] at hk ⊢
      rw [if_neg hm] at hk
      show lget s.T k = lget s'.T k
      rw [hs.T, hs'.T]; exact hk
  · rw [hs.L, hs'.L, ← b1.1, ← b2.1, h]
  · rw [hs.H, hs'.H, ← b1.2.1, ← b2.2.1, h]
  · rw [hs.om, hs'.om, ← b1.2.2, ← b2.2.2, h]
theorem start_RX (args : List AV) (h : Heap) (om : List Nat) : RX (start args h om) ⟨startT args 0 .lf, .lf, h, om⟩ := ⟨fun k => by
  show lget (args.map .v) k = _
  rw [startT_get]
  by_cases hk : k < args.length
  · rw [if_pos (by omega)]; simp
  · rw [if_neg (by omega), tgetR_lf]
    have : ∀ (l : List AV) (k : Nat), ¬ k < l.length → lget (l.map .v) k = .undef := by
      intro l
      induction l with
      | nil => intro k _; cases k <;> rfl
      | cons a l ih => intro k hk; cases k with
        | zero => simp at hk
        | succ k => exact ih k (by simpa using hk)
    exact this args k hk, rfl, rfl, rfl⟩
noncomputable def firstX (prog : Nat → Option AFunc) (n k : Nat) (c : ACode) (args : List AV) (om : List Nat) : Option SX := runHeadsX (callX prog n) n (heads k c) ⟨startT args 0 .lf, .lf, Heap.empty, om⟩
theorem weak_firstX {prog : Nat → Option AFunc} {g : Nat} {f : AFunc} (hg : prog g = some f) {ks : List Nat} (k : Nat) (hc : wkCode (ks.map fun k => (k, 0)) (rest k f.body) = true) (hr : strong (ks.map fun k => (k, 0)) (resTmps f.results) = true) {as bs : List AV} (hl : as.length = bs.length) {n : Nat} {om : List Nat}
    (hs : (firstX prog n k f.body as om).isSome = true) (he : (firstX prog n k f.body as om).map (blankX ks) = (firstX prog n k f.body bs om).map (blankX ks)) : callN prog (n + 1) g as Heap.empty om = callN prog (n + 1) g bs Heap.empty om := by
  obtain ⟨x, hx⟩ := Option.isSome_iff_exists.1 hs
  rw [hx] at he
  simp only [Option.map_some] at he
  obtain ⟨x', hx', he'⟩ := Option.map_eq_some_iff.1 he.symm
  have r1 := runHeadsX_rel (callX prog n) n (heads k f.body) (start_RX as Heap.empty om)
  have r2 := runHeadsX_rel (callX prog n) n (heads k f.body) (start_RX bs Heap.empty om)
  unfold firstX at hx hx'
  rw [hx] at r1
  rw [hx'] at r2
  rw [callX_eq] at r1 r2
  cases e1 : runHeads (callN prog n) n (heads k f.body) (start as Heap.empty om) with
  | none => rw [e1] at r1; exact r1.elim
  | some s => cases e2 : runHeads (callN prog n) n (heads k f.body) (start bs Heap.empty om) with
    | none => rw [e2] at r2; exact r2.elim
    | some s' =>
      rw [e1] at r1
      rw [e2] at r2
      exact weak_heads hg k hc hr hl e1 e2 (RW.of_blankX r1 r2 he'.symm)
end Go.Am
