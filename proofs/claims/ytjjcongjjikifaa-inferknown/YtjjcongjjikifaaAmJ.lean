/- The code of a function, a function, all that it calls. -/
import Derived.Test.YtjjcongjjikifaaAmI
import Derived.LoopN
import Derived.Below
set_option linter.unusedVariables false
set_option linter.unusedSimpArgs false
namespace Go.Am

def okCode (cx : Cx) (nt : Nat) : ACode → Code → Bool
  | .skip, c => match c with | .skip => true | _ => false
  | .ops l d, c => match c with
    | .region _ ops draw => okPairs cx nt ops ops.toList l && (match d with
      | none => !draw
      | some ancs => draw && cx.P.follows .mixedOrders && okDraw ops l ancs)
    | _ => false
  | .frz ks, c => match c with | .skip => ks.all (Nat.blt · nt) | _ => false
  | .seq a b, c => match b with
    | .frz ks => okCode cx nt a c && ks.all (Nat.blt · nt)
    | _ => match c with
      | .seq x y => okCode cx nt a x && okCode cx nt b y
      | _ => false
  | .cond p a b, c => match c with
    | .cond q x y => okOpd cx q p && okCode cx nt a x && okCode cx nt b y
    | _ => false
  | .block i a, c => match c with
    | .block j x => Nat.beq i j && okCode cx nt a x
    | _ => false
  | .loop a, c => match c with
    | .loop x => okCode cx nt a x
    | _ => false
  | .exit i, c => match c with | .exit j => Nat.beq i j | _ => false
  | .ret, c => match c with | .ret => true | _ => false

def Ex.out : Ex → Exit
  | .normal => .normal
  | .exit i => .exit i
  | .ret => .ret

section
variable {cx : Cx} {nt : Nat} {call : Caller}

def EndC (cx : Cx) (nt : Nat) (Q : Exit → Act → World → Prop) (ψ : Ps) (Z : Ze) (s : St) (w : World) (F : St → Option (Ex × St)) : Prop :=
  ∀ used e sf a' w' ψ' Z', (∀ η, F { s with om := used ++ η } = some (e, { sf with om := η })) → Goes cx ψ Z s.L s.H w ψ' Z' sf.L sf.H w' → SR cx nt ψ' Z' sf a' w' → Q e.out a' w'

theorem ops_sound (hf : FnsOK cx) (hcall : CallOK cx call) {l : List AOper} {d : Option (List (List Nat))} {c : Code} {ψ : Ps} {Z : Ze} {s : St} {a : Act} {w : World} {Q : Exit → Act → World → Prop} {n : Nat}
    (hok : okCode cx nt (.ops l d) c = true) (h : SR cx nt ψ Z s a w) (hs : ∀ om, ∃ r, exec call n (.ops l d) { s with om } = some r) (hk : EndC cx nt Q ψ Z s w (exec call n (.ops l d))) : c.wp cx.P Q a w := by
  simp only [okCode] at hok
  split at hok
  · rename_i id ops draw
    simp only [Bool.and_eq_true] at hok
    obtain ⟨h1, h2⟩ := hok
    obtain ⟨p1, p2⟩ := okPairs_at h1
    have hl : ops.size = l.length := by simpa using p1
    have hsteps : ∀ om, ∃ sf, steps call l { s with om } = some sf := by
      intro om
      obtain ⟨r, hr⟩ := hs om
      simp only [exec, Option.map_eq_some_iff] at hr
      obtain ⟨sf, hsf, _⟩ := hr
      exact ⟨sf, hsf⟩
    have hend : ∀ used sf a' w' ψ' Z', (∀ η, steps call l { s with om := used ++ η } = some { sf with om := η }) → Goes cx ψ Z s.L s.H w ψ' Z' sf.L sf.H w' → SR cx nt ψ' Z' sf a' w' → Q .normal a' w' := by
      intro used sf a' w' ψ' Z' hu hg hsr
      exact hk used .normal sf a' w' ψ' Z' (fun η => by simp only [exec, hu η, Option.map_some]) hg hsr
    have hpair : ∀ i, i < ops.size → ∃ o ao, ops[i]? = some o ∧ l[i]? = some ao ∧ okOper cx nt ops o ao = true := by
      intro i hi
      have hoi : ops.toList[i]? = some ops[i] := by simp [hi]
      obtain ⟨ao, e1, e2⟩ := p2 i ops[i] hoi
      exact ⟨ops[i], ao, by simp [hi], e1, e2⟩
    cases d with
    | none =>
      simp only [Bool.not_eq_true'] at h2
      subst h2
      refine wp_region (seq_ops hf hcall (List.range ops.size) (fun i hi => hpair i (by simpa using hi)) h ?_ ?_)
      · rw [hl, pickL_all]; exact hsteps
      · rw [hl, pickL_all]; exact hend
    | some ancs =>
      simp only [Bool.and_eq_true] at h2
      obtain ⟨⟨h3, h4⟩, h5⟩ := h2
      subst h3
      obtain ⟨h', g'⟩ := drew_SR h
      have hrem : rem ops.size (Array.replicate ops.size false) = List.range ops.size := by
        unfold rem
        rw [List.filter_eq_self]
        intro i hi
        have : i < ops.size := by simpa using hi
        simp [Array.getD, this]
      refine wp_region_any h4 (draw_ops hf hcall h5 hpair ops.size _ ?_ ⟨by simp, fun i hi hl' => ?_⟩ h' ?_ ?_)
      · rw [hrem]; simp
      · simp [Array.getD, hi] at hl'
      · rw [hrem, hl, pickL_all]; exact hsteps
      · rw [hrem, hl, pickL_all]
        intro used sf a' w' ψ' Z' hu hg hsr
        exact hend used sf a' w' ψ' Z' hu (g'.trans hg) hsr
  · simp at hok

theorem code_sound (hf : FnsOK cx) (hcall : CallOK cx call) (n : Nat) : ∀ (ac : ACode) {c : Code} {ψ : Ps} {Z : Ze} {s : St} {a : Act} {w : World} {Q : Exit → Act → World → Prop}, okCode cx nt ac c = true → SR cx nt ψ Z s a w →
    (∀ om, ∃ r, exec call n ac { s with om } = some r) → EndC cx nt Q ψ Z s w (exec call n ac) → c.wp cx.P Q a w := by
  have frz : ∀ (ks : List Nat) {ψ : Ps} {Z : Ze} {s : St} {a : Act} {w : World} {Q : Exit → Act → World → Prop}, ks.all (Nat.blt · nt) = true → SR cx nt ψ Z s a w →
      (∀ om, ∃ r, exec call n (.frz ks) { s with om } = some r) → EndC cx nt Q ψ Z s w (exec call n (.frz ks)) → Q .normal a w := by
    intro ks ψ Z s a w Q hk h hs he
    obtain ⟨r, hr⟩ := hs []
    simp only [exec, Option.map_eq_some_iff] at hr
    obtain ⟨sf, hsf, _⟩ := hr
    have hall : ∀ η, frzT { s with om := η } ks = some { sf with om := η } := by
      intro η
      have h0 := frzT_om ks s []
      rw [hsf] at h0
      rw [frzT_om]
      cases hq : frzT s ks with
      | none => rw [hq] at h0; simp at h0
      | some q => rw [hq] at h0; simp at h0 ⊢; subst h0; exact ⟨rfl, rfl, rfl⟩
    have hk' : ∀ k ∈ ks, k < nt := fun k hk0 => by simpa [Nat.blt_eq] using List.all_eq_true.1 hk k hk0
    obtain ⟨Z', g, r'⟩ := frzT_sound ks hk' h (hall s.om)
    exact he [] .normal _ a w ψ Z' (fun η => by simp only [exec, List.nil_append, hall η, Option.map_some]) g r'
  intro ac
  induction ac with
  | skip =>
    intro c ψ Z s a w Q hok h hs he
    simp only [okCode] at hok
    split at hok
    · exact wp_skip (he [] .normal s a w ψ Z (fun η => rfl) (Goes.refl h.mem) h)
    · simp at hok
  | ops l d =>
    intro c ψ Z s a w Q hok h hs he
    exact ops_sound hf hcall hok h hs he
  | frz ks =>
    intro c ψ Z s a w Q hok h hs he
    simp only [okCode] at hok
    split at hok
    · exact wp_skip (frz ks hok h hs he)
    · simp at hok
  | seq x y ihx ihy =>
    intro c ψ Z s a w Q hok h hs he
    -- what comes first ends
    have first : ∀ om, ∃ r, exec call n x { s with om } = some r := by
      intro om
      obtain ⟨r, hr⟩ := hs om
      simp only [exec] at hr
      cases hx : exec call n x { s with om } with
      | none => rw [hx] at hr; simp at hr
      | some q => exact ⟨q, rfl⟩
    have norm : ∀ {used : List Nat} {sf : St}, (∀ η, exec call n x { s with om := used ++ η } = some (.normal, { sf with om := η })) → ∀ η, exec call n (.seq x y) { s with om := used ++ η } = exec call n y { sf with om := η } := by
      intro used sf hu η
      simp only [exec, hu η]
    have other : ∀ {used : List Nat} {e : Ex} {sf : St}, e ≠ .normal → (∀ η, exec call n x { s with om := used ++ η } = some (e, { sf with om := η })) → ∀ η, exec call n (.seq x y) { s with om := used ++ η } = some (e, { sf with om := η }) := by
      intro used e sf hne hu η
      simp only [exec, hu η]
      cases e with
      | normal => exact absurd rfl hne
      | exit i => rfl
      | ret => rfl
    have rest : ∀ {used : List Nat} {sf : St}, (∀ η, exec call n x { s with om := used ++ η } = some (.normal, { sf with om := η })) → ∀ om, ∃ r, exec call n y { sf with om } = some r := by
      intro used sf hu om
      obtain ⟨r, hr⟩ := hs (used ++ om)
      rw [norm hu] at hr
      exact ⟨r, hr⟩
    have restE : ∀ {used : List Nat} {sf : St} {ψ' : Ps} {Z' : Ze} {w' : World}, (∀ η, exec call n x { s with om := used ++ η } = some (.normal, { sf with om := η })) → Goes cx ψ Z s.L s.H w ψ' Z' sf.L sf.H w' → EndC cx nt Q ψ' Z' sf w' (exec call n y) := by
      intro used sf ψ' Z' w' hu hg used' e' sf' a'' w'' ψ'' Z'' h1 h2 h3
      refine he (used ++ used') e' sf' a'' w'' ψ'' Z'' (fun η => ?_) (hg.trans h2) h3
      rw [List.append_assoc, norm hu, h1]
    simp only [okCode] at hok
    split at hok
    · rename_i ks
      simp only [Bool.and_eq_true] at hok
      refine ihx hok.1 h first fun used e sf a' w' ψ' Z' hu hg hsr => ?_
      by_cases hne : e = .normal
      · subst hne
        exact frz ks hok.2 hsr (rest hu) (restE hu hg)
      · exact he used e sf a' w' ψ' Z' (other hne hu) hg hsr
    · split at hok
      · rename_i cx1 cy1
        simp only [Bool.and_eq_true] at hok
        refine wp_seq (ihx hok.1 h first fun used e sf a' w' ψ' Z' hu hg hsr => ?_)
        cases e with
        | normal => exact ihy hok.2 hsr (rest hu) (restE hu hg)
        | exit i => exact he used (.exit i) sf a' w' ψ' Z' (other (by simp) hu) hg hsr
        | ret => exact he used .ret sf a' w' ψ' Z' (other (by simp) hu) hg hsr
      · simp at hok
  | cond p x y ihx ihy =>
    intro c ψ Z s a w Q hok h hs he
    simp only [okCode] at hok
    split at hok
    · rename_i q cx1 cy1
      simp only [Bool.and_eq_true] at hok
      have hev : ∃ t, ev s.T p = .v (.bool t) := by
        obtain ⟨r, hr⟩ := hs []
        simp only [exec] at hr
        split at hr
        · rename_i e; exact ⟨true, e⟩
        · rename_i e; exact ⟨false, e⟩
        · simp at hr
      obtain ⟨t, ht⟩ := hev
      have hq := bool_inv (h.opdv hok.1.1 ht)
      have hstep : ∀ om, exec call n (.cond p x y) { s with om } = exec call n (if t then x else y) { s with om } := by
        intro om
        simp only [exec, ht]
        cases t <;> rfl
      have hs' : ∀ om, ∃ r, exec call n (if t then x else y) { s with om } = some r := fun om => by rw [← hstep]; exact hs om
      have he' : EndC cx nt Q ψ Z s w (exec call n (if t then x else y)) := fun used e sf a' w' ψ' Z' hu hg hsr => he used e sf a' w' ψ' Z' (fun η => by rw [hstep, hu]) hg hsr
      refine wp_cond hq ?_
      cases t with
      | true => exact ihx hok.1.2 h hs' he'
      | false => exact ihy hok.2 h hs' he'
    · simp at hok
  | block i x ihx =>
    intro c ψ Z s a w Q hok h hs he
    simp only [okCode] at hok
    split at hok
    · rename_i j cx1
      simp only [Bool.and_eq_true] at hok
      have := Nat.eq_of_beq_eq_true hok.1
      subst this
      refine wp_block (ihx hok.2 h (fun om => ?_) fun used e sf a' w' ψ' Z' hu hg hsr => ?_)
      · obtain ⟨r, hr⟩ := hs om
        simp only [exec] at hr
        cases hx : exec call n x { s with om } with
        | none => rw [hx] at hr; simp at hr
        | some q => exact ⟨q, rfl⟩
      · cases e with
        | normal => exact he used .normal sf a' w' ψ' Z' (fun η => by simp only [exec, hu η]) hg hsr
        | ret => exact he used .ret sf a' w' ψ' Z' (fun η => by simp only [exec, hu η]) hg hsr
        | exit k =>
          simp only [Ex.out, Exit.inBlock]
          by_cases hki : k = i
          · subst hki
            rw [if_pos rfl]
            exact he used .normal sf a' w' ψ' Z' (fun η => by simp only [exec, hu η]; simp) hg hsr
          · rw [if_neg hki]
            refine he used (.exit k) sf a' w' ψ' Z' (fun η => ?_) hg hsr
            simp only [exec, hu η]
            have : Nat.beq k i = false := by
              cases hb : Nat.beq k i with
              | false => rfl
              | true => exact absurd (Nat.eq_of_beq_eq_true hb) hki
            simp [this]
    · simp at hok
  | loop x ihx =>
    intro c ψ Z s a w Q hok h hs he
    simp only [okCode] at hok
    split at hok
    · rename_i cx1
      have key : ∀ (k : Nat) {ψ : Ps} {Z : Ze} {s : St} {a : Act} {w : World}, SR cx nt ψ Z s a w → (∀ om, ∃ r, loopN (exec call n x) k { s with om } = some r) → EndC cx nt Q ψ Z s w (loopN (exec call n x) k) → Code.rounds cx.P cx1 Q k a w := by
        intro k
        induction k with
        | zero => intro ψ Z s a w h hs he; obtain ⟨r, hr⟩ := hs []; simp [loopN] at hr
        | succ k ih =>
          intro ψ Z s a w h hs he
          rw [rounds_succ]
          have norm : ∀ {used : List Nat} {sf : St}, (∀ η, exec call n x { s with om := used ++ η } = some (.normal, { sf with om := η })) → ∀ η, loopN (exec call n x) (k + 1) { s with om := used ++ η } = loopN (exec call n x) k { sf with om := η } := by
            intro used sf hu η
            simp only [loopN, hu η]
          have other : ∀ {used : List Nat} {e : Ex} {sf : St}, e ≠ .normal → (∀ η, exec call n x { s with om := used ++ η } = some (e, { sf with om := η })) → ∀ η, loopN (exec call n x) (k + 1) { s with om := used ++ η } = some (e, { sf with om := η }) := by
            intro used e sf hne hu η
            simp only [loopN, hu η]
            cases e with
            | normal => exact absurd rfl hne
            | exit i => rfl
            | ret => rfl
          refine ihx hok h (fun om => ?_) fun used e sf a' w' ψ' Z' hu hg hsr => ?_
          · obtain ⟨r, hr⟩ := hs om
            simp only [loopN] at hr
            cases hx : exec call n x { s with om } with
            | none => rw [hx] at hr; simp at hr
            | some q => exact ⟨q, rfl⟩
          · cases e with
            | normal =>
              refine ih hsr (fun om => ?_) fun used' e' sf' a'' w'' ψ'' Z'' h1 h2 h3 => ?_
              · obtain ⟨r, hr⟩ := hs (used ++ om)
                rw [norm hu] at hr
                exact ⟨r, hr⟩
              · refine he (used ++ used') e' sf' a'' w'' ψ'' Z'' (fun η => ?_) (hg.trans h2) h3
                rw [List.append_assoc, norm hu, h1]
            | exit i => exact he used (.exit i) sf a' w' ψ' Z' (other (by simp) hu) hg hsr
            | ret => exact he used .ret sf a' w' ψ' Z' (other (by simp) hu) hg hsr
      exact wp_loop_rounds n (key n h hs he)
    · simp at hok
  | exit i =>
    intro c ψ Z s a w Q hok h hs he
    simp only [okCode] at hok
    split at hok
    · rename_i j
      have := Nat.eq_of_beq_eq_true hok
      subst this
      exact wp_exit (he [] (.exit i) s a w ψ Z (fun η => rfl) (Goes.refl h.mem) h)
    · simp at hok
  | ret =>
    intro c ψ Z s a w Q hok h hs he
    simp only [okCode] at hok
    split at hok
    · exact wp_ret (he [] .ret s a w ψ Z (fun η => rfl) (Goes.refl h.mem) h)
    · simp at hok

/-! ### functions -/
def okFunc (cx : Cx) (fn : Func) (af : AFunc) : Bool :=
  match fn.body with
  | some c => okCode cx af.ntmps af.body c && Nat.beq fn.ntmps af.ntmps && Nat.ble af.np af.ntmps && okRes cx.P fn.results.toList af.results && !(fn.name == "runtime.NumGoroutine")
  | none => false

structure FnsA (cx : Cx) (prog : Nat → Option AFunc) : Prop where
  fn : ∀ f g, cx.fm f = some g → ∃ fn af, cx.P.funcs[f]? = some fn ∧ prog g = some af ∧ okFunc cx fn af = true
  ps : ∀ g, rangeId ≤ g → prog g = none

theorem FnsA.ok {prog : Nat → Option AFunc} (h : FnsA cx prog) : FnsOK cx := by
  intro f g hfg
  obtain ⟨fn, af, h1, _, h3⟩ := h.fn f g hfg
  unfold okFunc at h3
  split at h3
  · rename_i c hc
    simp only [Bool.and_eq_true, Bool.not_eq_true'] at h3
    exact ⟨fn, h1, by simpa using h3.2, by simp [hc]⟩
  · simp at h3

theorem lget_map : ∀ (l : List AV) (k : Nat), lget (l.map .v) k = match l[k]? with | some a => .v a | none => .undef
  | [], k => by cases k <;> rfl
  | a :: l, 0 => rfl
  | a :: l, k + 1 => by simpa [lget] using lget_map l k

theorem resultA_om (s : St) (η : List Nat) (r : ARes) : resultA { s with om := η } r = resultA s r := by cases r <;> rfl
theorem resultsA_om (s : St) (η : List Nat) : ∀ rs, resultsA { s with om := η } rs = resultsA s rs
  | [] => rfl
  | r :: rs => by simp only [resultsA, resultA_om, resultsA_om s η rs]

theorem goes_close {ψ : Ps} {Z : Ze} {h : Heap} {w : World} (hψ : ∀ q, ψ (.inr q) = none) {ψ' : Ps} {Z' : Ze} {L' : Boxes} {h' : Heap} {w' : World} (g : Goes cx ψ Z .lf h w ψ' Z' L' h' w') : Goes cx ψ Z .lf h w (inls ψ') Z' .lf h' w' := by
  refine ⟨memR_inls (s := ⟨[], L', h', []⟩) g.mem, g.ext, fun o p hp => ?_, ⟨g.fr.same, fun b hb ho => ?_⟩, ?_, g.zz⟩
  · cases o with
    | inl i => exact g.ps _ _ hp
    | inr q => rw [hψ] at hp; simp at hp
  · rintro ⟨o, x, p, h1, h2, h3⟩
    cases o with
    | inr q => rw [look_nil] at h1; simp at h1
    | inl i => exact g.fr.own b hb ho ⟨.inl i, x, p, h1, h2, h3⟩
  · exact g.ver

theorem fn_sound {prog : Nat → Option AFunc} (hA : FnsA cx prog) (n : Nat) (hcall : CallOK cx (callN prog n)) : CallOK cx (callN prog (n + 1)) := by
  refine ⟨?_, fun g args h om r hg hr => by simpa only [callN, hA.ps g hg] using hr⟩
  intro g f args h ψ Z w args' hs hfm hψ hm hargs
  obtain ⟨fn, af, h1, h2, h3⟩ := hA.fn f g hfm
  unfold okFunc at h3
  split at h3
  · rename_i c hc
    simp only [Bool.and_eq_true] at h3
    obtain ⟨⟨⟨⟨k1, k2⟩, k3⟩, k4⟩, _⟩ := h3
    have k2 := Nat.eq_of_beq_eq_true k2
    have k3 := Nat.le_of_ble_eq_true k3
    have hnp : Nat.beq args.length af.np = true := by
      obtain ⟨q, hq⟩ := hs []
      simp only [callN, h2] at hq
      split at hq
      · assumption
      · simp at hq
    have hcn : ∀ om, callN prog (n + 1) g args h om = finish af (exec (callN prog n) n af.body (start args h om)) := by
      intro om
      simp only [callN, h2, hnp, if_true]
    have hnp' := Nat.eq_of_beq_eq_true hnp
    have hlen := hargs.len
    have hsz : args'.size = af.np := by simp at hlen; omega
    refine calls_of_wp h1 hc ?_
    have hsr : SR cx af.ntmps ψ Z (start args h []) { tmps := args' ++ Array.replicate (fn.ntmps - args'.size) undef, defers := [] } w := by
      refine ⟨rfl, by simp; omega, fun k => ?_, hm⟩
      simp only [start]
      rw [lget_map]
      have e1 : (args' ++ Array.replicate (fn.ntmps - args'.size) undef).getD k undef = match args.length.ble k with | true => undef | false => args'.getD k undef := by
        rw [Array.getD_eq_getD_getElem?, Array.getElem?_append]
        simp only [hsz]
        by_cases hk : k < af.np
        · rw [if_pos hk]
          have : Nat.ble args.length k = false := by
            cases hb : Nat.ble args.length k with
            | false => rfl
            | true => have := Nat.le_of_ble_eq_true hb; omega
          rw [this]; simp [Array.getD_eq_getD_getElem?]
        · rw [if_neg hk]
          have : Nat.ble args.length k = true := Nat.ble_eq_true_of_le (by omega)
          rw [this]
          simp only [Array.getElem?_replicate]
          split <;> rfl
      rw [e1]
      by_cases hk : k < args.length
      · have : Nat.ble args.length k = false := by
          cases hb : Nat.ble args.length k with
          | false => rfl
          | true => have := Nat.le_of_ble_eq_true hb; omega
        rw [this]
        have hk' : k < args'.size := by omega
        rw [List.getElem?_eq_getElem hk]
        have := hargs.at_ k hk (by simpa using hk')
        simp only [Array.getD, hk', dite_true]
        show VR cx.fm (ph ψ) Z w _ _
        simpa using this
      · have : Nat.ble args.length k = true := Nat.ble_eq_true_of_le (by omega)
        rw [this, List.getElem?_eq_none (by omega)]
        exact undef_tvr
    refine code_sound hA.ok hcall n af.body k1 hsr (fun om => ?_) fun used e sf a' w' ψ' Z' hu hg hsf => ?_
    · obtain ⟨q, hq⟩ := hs om
      rw [hcn] at hq
      have : (start args h [] : St) = start args h [] := rfl
      cases hx : exec (callN prog n) n af.body (start args h om) with
      | none => rw [hx] at hq; simp [finish] at hq
      | some r => exact ⟨r, hx⟩
    · have hu' : ∀ η, exec (callN prog n) n af.body (start args h (used ++ η)) = some (e, { sf with om := η }) := hu
      have hne : ∀ i, e ≠ .exit i := by
        rintro i rfl
        obtain ⟨q, hq⟩ := hs (used ++ [])
        rw [hcn, hu'] at hq
        simp [finish] at hq
      have hfin : ∀ η, finish af (some (e, { sf with om := η })) = match resultsA sf af.results with
          | some l => if af.frz then some ((freezeAll sf.H (oneOf l)).1, (freezeAll sf.H (oneOf l)).2, η) else some (oneOf l, sf.H, η)
          | none => none := by
        intro η
        cases e with
        | exit i => exact absurd rfl (hne i)
        | normal => simp only [finish, resultsA_om]; cases resultsA sf af.results <;> rfl
        | ret => simp only [finish, resultsA_om]; cases resultsA sf af.results <;> rfl
      have post : bodyPost cx.P fn (fun e w' => ∃ used r h' v ψ' Z', (∀ η, callN prog (n + 1) g args h (used ++ η) = some (r, h', η)) ∧ e = .returned v ∧ Goes cx ψ Z .lf h w ψ' Z' .lf h' w' ∧ VR cx.fm (ph ψ') Z' w' r v ∧ ∀ q, ψ' (.inr q) = none) .normal a' w' := by
        cases hx : resultsA sf af.results with
        | none =>
          obtain ⟨q, hq⟩ := hs (used ++ [])
          rw [hcn, hu', hfin, hx] at hq
          simp at hq
        | some l =>
          obtain ⟨v, r1, r2⟩ := results_run hsf k4 hx
          refine ⟨hsf.defers, v, r1, ?_⟩
          have hg' : Goes cx ψ Z .lf h w ψ' Z' sf.L sf.H w' := hg
          by_cases hfz : af.frz = true
          · obtain ⟨Z2, g2, r3⟩ := freezeAll_sound hsf.mem r2
            refine ⟨used, _, _, v, inls ψ', Z2, fun η => ?_, rfl, goes_close hψ (hg'.trans g2), r3, fun q => rfl⟩
            rw [hcn, hu', hfin, hx]
            simp only [hfz, if_true]
          · refine ⟨used, _, _, v, inls ψ', Z', fun η => ?_, rfl, goes_close hψ hg', r2, fun q => rfl⟩
            rw [hcn, hu', hfin, hx]
            simp only [hfz]
            rfl
      cases e with
      | exit i => exact absurd rfl (hne i)
      | normal => exact post
      | ret => exact post
  · simp at h3

theorem callN_sound {prog : Nat → Option AFunc} (hA : FnsA cx prog) : ∀ n, CallOK cx (callN prog n)
  | 0 => by
    refine ⟨?_, fun g args h om r hg hr => by simp [callN] at hr⟩
    intro g f args h ψ Z w args' hs
    obtain ⟨q, hq⟩ := hs []
    simp [callN] at hq
  | n + 1 => fn_sound hA n (callN_sound hA n)

/-! ### a law -/
def Zold (w : World) : Ze := fun b => (rowSize w b).getD 0

theorem mem_empty {w : World} (hgl : GlOK cx.gl (Zold w) w) : MemR cx (fun _ => none) (Zold w) .lf Heap.empty w := by
  have hlk : ∀ o, look .lf Heap.empty o = none := by
    intro o
    cases o with
    | inl i => simp [look, Heap.get, Heap.empty, oget]
    | inr q => exact look_nil _ q
  refine ⟨⟨fun o x hx => ?_, fun o o' x x' p p' h1 => ?_, fun b hb => ?_⟩, fun _ _ => rfl, fun _ _ _ => rfl, hgl⟩
  · rw [hlk] at hx; simp at hx
  · rw [hlk] at h1; simp at h1
  · unfold Zold at hb ⊢
    cases hr : rowSize w b with
    | none => rw [hr] at hb; simp at hb
    | some n => exact ⟨n, rfl, Nat.le_refl _⟩

theorem law_sound {prog : Nat → Option AFunc} (hA : FnsA cx prog) {n : Nat} {g : Nat} {f : FuncId} (hfm : cx.fm f = some g) {w : World} (hgl : GlOK cx.gl (Zold w) w) {args : List AV} {args' : Array Value}
    (hargs : VRs cx.fm (fun _ => none) (Zold w) w args args'.toList) (hrun : ∀ om, ∃ h' om', callN prog n g args Heap.empty om = some (.bool true, h', om')) :
    Calls cx.P f args' w fun e w' => e = .returned (.bool true) ∧ RowKit.Below w.heap.size w w' := by
  refine Calls.mono ((callN_sound hA n).fn g f args Heap.empty (fun _ => none) (Zold w) w args' (fun om => ?_) hfm (fun _ => rfl) (mem_empty hgl) hargs) ?_
  · obtain ⟨h', om', e⟩ := hrun om
    exact ⟨_, e⟩
  · rintro e w' ⟨used, r, h', v, ψ', Z', hu, rfl, hg, hv, _⟩
    obtain ⟨h2, om2, e2⟩ := hrun (used ++ [])
    rw [hu] at e2
    simp at e2
    obtain ⟨rfl, rfl, rfl⟩ := e2
    have := bool_inv hv
    subst this
    refine ⟨rfl, hg.ext.os, hg.ext.tape, hg.ext.output, hg.ext.size, fun b hb => hg.fr.same b hb ?_⟩
    rintro ⟨o, x, p, _, h2, _⟩
    simp at h2

end
end Go.Am
