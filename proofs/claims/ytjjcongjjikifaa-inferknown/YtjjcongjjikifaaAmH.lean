/- Regions stand for the model's, in text order or drawn. -/
import Derived.Test.YtjjcongjjikifaaAmG
set_option linter.unusedVariables false
set_option linter.unusedSimpArgs false
namespace Go.Am

def okPairs (cx : Cx) (nt : Nat) (ops : Array Oper) : List Oper → List AOper → Bool
  | [], [] => true
  | o :: r, a :: s => okOper cx nt ops o a && okPairs cx nt ops r s
  | _, _ => false
theorem okPairs_at {cx : Cx} {nt : Nat} {ops : Array Oper} : ∀ {os : List Oper} {as : List AOper}, okPairs cx nt ops os as = true → os.length = as.length ∧ ∀ (i : Nat) (o : Oper), os[i]? = some o → ∃ a, as[i]? = some a ∧ okOper cx nt ops o a = true
  | [], [], _ => ⟨rfl, fun i o h => by simp at h⟩
  | [], _ :: _, h => by simp [okPairs] at h
  | _ :: _, [], h => by simp [okPairs] at h
  | o :: os, a :: as, h => by
    simp only [okPairs, Bool.and_eq_true] at h
    obtain ⟨h1, h2⟩ := okPairs_at h.2
    refine ⟨by simp [h1], fun i o' ho => ?_⟩
    cases i with
    | zero => simp at ho; subst ho; exact ⟨a, rfl, h.1⟩
    | succ i => exact h2 i o' (by simpa using ho)

/-- Operations by their numbers. -/
def pickL (l : List AOper) (idx : List Nat) : List AOper := idx.filterMap fun i => l[i]?
theorem pickL_range' : ∀ (l pre : List AOper), pickL (pre ++ l) (List.range' pre.length l.length) = l
  | [], pre => rfl
  | a :: l, pre => by
    simp only [List.length_cons, List.range'_succ, pickL, List.filterMap_cons]
    have h1 : (pre ++ a :: l)[pre.length]? = some a := by simp
    rw [h1]
    have := pickL_range' l (pre ++ [a])
    simp only [pickL, List.append_assoc, List.singleton_append, List.length_append, List.length_singleton] at this
    rw [this]
theorem pickL_all (l : List AOper) : pickL l (List.range l.length) = l := by
  have := pickL_range' l []
  simpa [List.range_eq_range'] using this

section
variable {cx : Cx} {nt : Nat} {call : Caller} {ops : Array Oper} {l : List AOper} {Q : Exit → Act → World → Prop}

/-- What the region's end is to know. -/
def EndK (cx : Cx) (nt : Nat) (Q : Exit → Act → World → Prop) (ψ : Ps) (Z : Ze) (s : St) (w : World) (F : St → Option St) : Prop :=
  ∀ used sf a' w' ψ' Z', (∀ η, F { s with om := used ++ η } = some { sf with om := η }) → Goes cx ψ Z s.L s.H w ψ' Z' sf.L sf.H w' → SR cx nt ψ' Z' sf a' w' → Q .normal a' w'

theorem EndK.step {ψ : Ps} {Z : Ze} {s : St} {w : World} {F G : St → Option St} (h : EndK cx nt Q ψ Z s w F) {used : List Nat} {s' : St} {w' : World} {ψ' : Ps} {Z' : Ze}
    (hf : ∀ η, F { s with om := used ++ η } = G { s' with om := η }) (hg : Goes cx ψ Z s.L s.H w ψ' Z' s'.L s'.H w') : EndK cx nt Q ψ' Z' s' w' G := by
  intro used' sf a' w'' ψ'' Z'' h1 h2 h3
  refine h (used ++ used') sf a' w'' ψ'' Z'' (fun η => ?_) (hg.trans h2) h3
  rw [List.append_assoc, hf, h1]

theorem seq_ops (hf : FnsOK cx) (hcall : CallOK cx call) : ∀ (idx : List Nat) {ψ : Ps} {Z : Ze} {s : St} {a : Act} {w : World}, (∀ i ∈ idx, ∃ o ao, ops[i]? = some o ∧ l[i]? = some ao ∧ okOper cx nt ops o ao = true) → SR cx nt ψ Z s a w →
    (∀ om, ∃ sf, steps call (pickL l idx) { s with om } = some sf) → EndK cx nt Q ψ Z s w (steps call (pickL l idx)) → wpOps cx.P ops Q idx a w
  | [], ψ, Z, s, a, w, _, h, _, hk => hk [] s a w ψ Z (fun η => rfl) (Goes.refl h.mem) h
  | i :: idx, ψ, Z, s, a, w, hi, h, hs, hk => by
    obtain ⟨o, ao, ho, hao, hok⟩ := hi i (by simp)
    have hp : pickL l (i :: idx) = ao :: pickL l idx := by simp [pickL, hao]
    rw [wpOps_cons]
    refine step_sound hf hcall ho hok h (fun om => ?_) (fun used s' a' w' ψ' Z' hu hg hsr => ?_)
    · obtain ⟨sf, e⟩ := hs om
      rw [hp] at e
      simp only [steps] at e
      split at e
      · rename_i s' e'; exact ⟨s', e'⟩
      · simp at e
    · have hst : ∀ η, steps call (pickL l (i :: idx)) { s with om := used ++ η } = steps call (pickL l idx) { s' with om := η } := fun η => by
        rw [hp]; simp only [steps, hu η]
      refine seq_ops hf hcall idx (fun j hj => hi j (by simp [hj])) hsr (fun om => ?_) (hk.step hst hg)
      obtain ⟨sf, e⟩ := hs (used ++ om)
      rw [hst] at e
      exact ⟨sf, e⟩

/-! ### drawn -/
/-- Each of the operations that must come ahead (their numbers) does by the region's edges. -/
def okAnc (ops : Array Oper) (ancs : List (List Nat)) (i : Nat) (o : Oper) : Bool :=
  (ancs.getD i []).all (fun j => o.after.any fun e => Region.binds .any e && (Nat.beq e.on j || (ancs.getD e.on []).any (Nat.beq j))) &&
  o.after.all (fun e => !Region.binds .any e || Nat.blt e.on i)
def okInd (l : List AOper) (ancs : List (List Nat)) (i : Nat) (a : AOper) : Bool :=
  (List.range i).all fun j => (ancs.getD i []).any (Nat.beq j) || (match l[j]? with | some b => ind b a | none => false)
def okDraw (ops : Array Oper) (l : List AOper) (ancs : List (List Nat)) : Bool :=
  (List.range ops.size).all fun i => match ops[i]?, l[i]? with
    | some o, some a => okAnc ops ancs i o && okInd l ancs i a
    | _, _ => false

def rem (n : Nat) (listed : Array Bool) : List Nat := (List.range n).filter fun i => !listed.getD i true

theorem rem_split {n i : Nat} {listed : Array Bool} (hn : listed.size = n) (hi : i < n) (hl : listed.getD i true = false) :
    ∃ xs ys, rem n listed = xs ++ i :: ys ∧ rem n (listed.setIfInBounds i true) = xs ++ ys ∧ ∀ j ∈ xs, j < i ∧ listed.getD j true = false := by
  have hr : List.range n = List.range i ++ i :: List.range' (i + 1) (n - i - 1) := by
    rw [List.range_eq_range', List.range_eq_range']
    have e : n = i + ((n - i - 1) + 1) := by omega
    rw [show List.range' 0 n = List.range' 0 (i + ((n - i - 1) + 1)) by rw [← e], ← List.range'_append (s := 0) (m := i) (n := (n - i - 1) + 1) (step := 1), List.range'_succ]
    simp
  have hset : ∀ j, j ≠ i → (listed.setIfInBounds i true).getD j true = listed.getD j true := fun j hj => getD_set_ne true (Ne.symm hj)
  have hseti : (listed.setIfInBounds i true).getD i true = true := by
    simp [Array.getElem?_setIfInBounds, hn, hi]
  refine ⟨(List.range i).filter (fun j => !listed.getD j true), (List.range' (i + 1) (n - i - 1)).filter (fun j => !listed.getD j true), ?_, ?_, fun j hj => ?_⟩
  · unfold rem; rw [hr, List.filter_append, List.filter_cons]; simp only [hl, Bool.not_false, if_true]
  · unfold rem; rw [hr, List.filter_append, List.filter_cons]
    simp only [hseti, Bool.not_true, Bool.false_eq_true, if_false]
    congr 1
    · refine List.filter_congr fun j hj => ?_
      simp at hj; rw [hset j (by omega)]
    · refine List.filter_congr fun j hj => ?_
      simp at hj; rw [hset j (by omega)]
  · simp only [List.mem_filter, List.mem_range, Bool.not_eq_true'] at hj; exact hj

structure Listed (ops : Array Oper) (ancs : List (List Nat)) (listed : Array Bool) : Prop where
  size : listed.size = ops.size
  down : ∀ i, i < ops.size → listed.getD i false = true → ∀ j ∈ ancs.getD i [], listed.getD j false = true

theorem getD_flip {listed : Array Bool} {j : Nat} (hj : j < listed.size) (d d' : Bool) : listed.getD j d = listed.getD j d' := by
  simp [Array.getD, hj]

theorem draw_ops (hf : FnsOK cx) (hcall : CallOK cx call) {ancs : List (List Nat)} (hd : okDraw ops l ancs = true) (hok : ∀ i, i < ops.size → ∃ o ao, ops[i]? = some o ∧ l[i]? = some ao ∧ okOper cx nt ops o ao = true) :
    ∀ (fuel : Nat) (listed : Array Bool) {ψ : Ps} {Z : Ze} {s : St} {a : Act} {w : World}, (rem ops.size listed).length ≤ fuel → Listed ops ancs listed → SR cx nt ψ Z s a w →
    (∀ om, ∃ sf, steps call (pickL l (rem ops.size listed)) { s with om } = some sf) → EndK cx nt Q ψ Z s w (steps call (pickL l (rem ops.size listed))) → wpAny cx.P .any ops Q fuel listed a w := by
  have hfacts : ∀ i, i < ops.size → ∃ o ao, ops[i]? = some o ∧ l[i]? = some ao ∧ okAnc ops ancs i o = true ∧ okInd l ancs i ao = true := by
    intro i hi
    have := List.all_eq_true.1 hd i (by simpa using hi)
    split at this
    · rename_i o a e1 e2
      simp only [Bool.and_eq_true] at this
      exact ⟨o, a, e1, e2, this.1, this.2⟩
    · simp at this
  -- nothing is ready: nothing is left
  have hnil : ∀ listed : Array Bool, Listed ops ancs listed → Region.ready .any ops listed = [] → rem ops.size listed = [] := by
    intro listed hl hr
    have key : ∀ i, i < ops.size → listed.getD i false = true := by
      intro i
      induction i using Nat.strongRecOn with
      | _ i ih =>
        intro hi
        cases hb : listed.getD i false with
        | true => rfl
        | false =>
          obtain ⟨o, ao, e1, e2, e3, e4⟩ := hfacts i hi
          have : i ∈ Region.ready .any ops listed := by
            rw [mem_ready]
            refine ⟨by rw [getD_flip (by rw [hl.size]; exact hi) true false]; exact hb, o, e1, fun e he hbi => ?_⟩
            simp only [okAnc, Bool.and_eq_true, Array.all_eq_true_iff_forall_mem] at e3
            have := e3.2 e he
            simp only [hbi, Bool.not_true, Bool.false_or] at this
            have hlt : e.on < i := by simpa [Nat.blt_eq] using this
            exact ih e.on hlt (by omega)
          rw [hr] at this
          simp at this
    unfold rem
    rw [List.filter_eq_nil_iff]
    intro i hi
    have hi' : i < ops.size := by simpa using hi
    rw [getD_flip (by rw [hl.size]; exact hi') true false, key i hi']
    simp
  intro fuel
  induction fuel with
  | zero =>
    intro listed ψ Z s a w hlen hl h hs hk
    have hrem : rem ops.size listed = [] := List.eq_nil_of_length_eq_zero (by omega)
    refine ⟨?_, ?_⟩
    · cases hr : Region.ready .any ops listed with
      | nil => rfl
      | cons i r =>
        have : i ∈ Region.ready .any ops listed := by rw [hr]; simp
        obtain ⟨h1, o, h2, _⟩ := mem_ready.1 this
        have hi : i < ops.size := (Array.getElem?_eq_some_iff.1 h2).1
        have : i ∈ rem ops.size listed := by unfold rem; simp only [List.mem_filter, List.mem_range]; exact ⟨hi, by simp [h1]⟩
        rw [hrem] at this; simp at this
    · rw [hrem] at hk
      exact hk [] s a w ψ Z (fun η => rfl) (Goes.refl h.mem) h
  | succ fuel ih =>
    intro listed ψ Z s a w hlen hl h hs hk
    refine ⟨fun hr => ?_, fun i hi => ?_⟩
    · rw [hnil listed hl hr] at hk
      exact hk [] s a w ψ Z (fun η => rfl) (Goes.refl h.mem) h
    · obtain ⟨h1, o, h2, h3⟩ := mem_ready.1 hi
      have hin : i < ops.size := (Array.getElem?_eq_some_iff.1 h2).1
      obtain ⟨o', ao, e1, e2, e3, e4⟩ := hfacts i hin
      obtain ⟨o2, ao2, f1, f2, f3⟩ := hok i hin
      rw [h2] at e1 f1
      cases e1; cases f1
      rw [e2] at f2
      cases f2
      obtain ⟨xs, ys, g1, g2, g3⟩ := rem_split hl.size hin h1
      -- all that must come ahead has come
      have hanc : ∀ j ∈ ancs.getD i [], listed.getD j false = true := by
        intro j hj
        simp only [okAnc, Bool.and_eq_true, List.all_eq_true] at e3
        have := e3.1 j hj
        rw [Array.any_eq_true'] at this
        obtain ⟨e, he, hb⟩ := this
        simp only [Bool.and_eq_true, Bool.or_eq_true] at hb
        have hon := h3 e he hb.1
        rcases hb.2 with hb2 | hb2
        · have := Nat.eq_of_beq_eq_true hb2; subst this; exact hon
        · rw [List.any_eq_true] at hb2
          obtain ⟨j', hj', hb3⟩ := hb2
          have := Nat.eq_of_beq_eq_true hb3; subst this
          have hons : e.on < ops.size := by
            rw [← hl.size]
            rcases Nat.lt_or_ge e.on listed.size with h | h
            · exact h
            · simp [Array.getD, Nat.not_lt.2 h] at hon
          exact hl.down e.on hons hon j hj'
      have hind : ∀ b ∈ pickL l xs, ind b ao = true := by
        intro b hb
        simp only [pickL, List.mem_filterMap] at hb
        obtain ⟨j, hj, hlj⟩ := hb
        obtain ⟨q1, q2⟩ := g3 j hj
        have := List.all_eq_true.1 e4 j (by simpa using q1)
        rw [hlj] at this
        simp only [Bool.or_eq_true] at this
        rcases this with this | this
        · rw [List.any_eq_true] at this
          obtain ⟨j', hj', hb⟩ := this
          have := Nat.eq_of_beq_eq_true hb; subst this
          have h5 := hanc j hj'
          rw [getD_flip (by rw [hl.size]; omega) false true, q2] at h5
          simp at h5
        · exact this
      have hsplit : pickL l (rem ops.size listed) = pickL l xs ++ ao :: pickL l ys := by
        rw [g1]; simp [pickL, List.filterMap_append, List.filterMap_cons, e2]
      have hsplit' : pickL l (rem ops.size (listed.setIfInBounds i true)) = pickL l xs ++ pickL l ys := by
        rw [g2]; simp [pickL, List.filterMap_append]
      refine step_sound hf hcall h2 f3 h (fun om => ?_) (fun used s' a' w' ψ' Z' hu hg hsr => ?_)
      · obtain ⟨sf, e⟩ := hs om
        rw [hsplit] at e
        obtain ⟨s1, e5, _⟩ := bubble hind e
        exact ⟨s1, e5⟩
      · have hst : ∀ η, steps call (pickL l (rem ops.size listed)) { s with om := used ++ η } = steps call (pickL l (rem ops.size (listed.setIfInBounds i true))) { s' with om := η } := fun η => by
          obtain ⟨sf, e⟩ := hs (used ++ η)
          have e' := e
          rw [hsplit] at e
          obtain ⟨s1, e5, e6⟩ := bubble hind e
          rw [hu η] at e5
          cases e5
          rw [e', hsplit', e6]
        refine ih _ ?_ ⟨by simp [hl.size], fun j hj hlj k hk => ?_⟩ hsr (fun om => ?_) (hk.step hst hg)
        · rw [g2]; rw [g1] at hlen; simp at hlen ⊢; omega
        · by_cases hji : j = i
          · subst hji; exact getD_set_true (hanc k hk)
          · rw [getD_set_ne false (fun e => hji e.symm)] at hlj
            exact getD_set_true (hl.down j hj hlj k hk)
        · obtain ⟨sf, e⟩ := hs (used ++ om)
          rw [hst] at e
          exact ⟨sf, e⟩

theorem drew_SR {ψ : Ps} {Z : Ze} {s : St} {a : Act} {w : World} (h : SR cx nt ψ Z s a w) : SR cx nt ψ Z s a { w with drawn := w.drawn + 1 } ∧ Goes cx ψ Z s.L s.H w ψ Z s.L s.H { w with drawn := w.drawn + 1 } := by
  have hx : Ext (ph ψ) (ph ψ) Z Z w { w with drawn := w.drawn + 1 } := ext_drew
  have hm : MemR cx ψ Z s.L s.H { w with drawn := w.drawn + 1 } := by
    refine ⟨⟨fun o x hx' => ?_, h.mem.inv.inj, h.mem.inv.zs⟩, h.mem.freshH, h.mem.freshL, h.mem.gl⟩
    obtain ⟨p, hp, ho⟩ := h.mem.inv.obj o x hx'
    exact ⟨p, hp, ho.ext hx rfl rfl⟩
  have hg : Goes cx ψ Z s.L s.H w ψ Z s.L s.H { w with drawn := w.drawn + 1 } := ⟨hm, hx, fun _ _ h => h, ⟨fun _ _ _ => rfl, fun _ _ h => h⟩, .inl ⟨rfl, fun _ _ _ _ _ => rfl⟩, fun _ _ _ => rfl⟩
  exact ⟨⟨h.defers, h.size, fun k => (h.tmps k).goes hg, hm⟩, hg⟩

end
end Go.Am
