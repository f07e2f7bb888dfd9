/- Freezing; a function's results. -/
import Derived.Test.YtjjcongjjikifaaAmH
set_option linter.unusedVariables false
set_option linter.unusedSimpArgs false
namespace Go.Am

section
variable {cx : Cx} {nt : Nat} {ψ : Ps} {Z : Ze} {L : Boxes} {H : Heap} {w : World}

theorem CellsR.pl {fm : Fm} {φ : Ph} {cs : List AV} {b off ln cap : Nat} {vs : List Value} (h : CellsR fm φ Z w cs b off vs) (hl : ln ≤ cap) (hz : off + cs.length ≤ Z b ∨ cs = []) : VR fm φ Z w (.pl cs ln .no) (.slice (some ⟨b, off, none⟩) ln cap) := by
  have hlen := h.rel.len
  refine .pl cs ln cap .no b off (fun i => vs.getD i undef) hl hz (fun i hi => ?_) (fun i hi => ?_) trivial
  · have : vs[i]? = some (vs.getD i undef) := by simp [List.getD, List.getElem?_eq_getElem (show i < vs.length by omega)]
    exact h.at_ i _ this
  · have := h.rel.at_ i hi (by omega)
    simpa [List.getD, List.getElem?_eq_getElem (show i < vs.length by omega)] using this

theorem freeze_sound (m : MemR cx ψ Z L H w) {a : AV} {v : Value} (hv : VR cx.fm (ph ψ) Z w a v) : ∃ Z', Goes cx ψ Z L H w ψ Z' L (freeze H a).2 w ∧ VR cx.fm (ph ψ) Z' w (freeze H a).1 v := by
  unfold freeze
  split
  · rename_i id off len esz
    split
    · rename_i c hc
      split
      · rename_i hle
        simp only [Bool.and_eq_true] at hle
        have h1 := Nat.le_of_ble_eq_true hle.1
        obtain ⟨b, e0, cap, sz, o0, rfl, p1, p2, p3, p4, p5⟩ := sl_inv hv
        have p1' : ψ (.inl id) = some (b, e0) := p1
        have hl : look L H (.inl id) = some (.cells c) := by simpa [look] using hc
        obtain ⟨b', e', arr, el, q1, q2, q3, q4, q5⟩ := obj_cells (s := ⟨[], L, H, []⟩) m hl
        rw [p1'] at q1; simp at q1; obtain ⟨rfl, rfl⟩ := q1
        obtain ⟨i1, i2, i3⟩ := inv_freeze m.inv hl p1' (n := e0 + c.length) (Nat.le_refl _)
        rw [← look_del] at i1 i3
        refine ⟨_, ⟨⟨i1, m.freshH, m.freshL, m.gl.ext i2⟩, i2, fun _ _ h => h, i3, .inr (by simp [Heap.del]), fun b' hb' ho => ?_⟩, ?_⟩
        · unfold upz; rw [if_neg]
          rintro rfl; exact ho ⟨.inl id, _, _, hl, p1', rfl⟩
        · have hcr : CellsR cx.fm (ph ψ) (upz Z b (e0 + c.length)) w ((c.drop off).take (len * esz)) b (e0 + off) _ := ((CellsR.of_arr q3 q4 (q5.ext i2)).drop off).take (len * esz)
          rcases p5 with rfl | rfl
          · refine hcr.pl p4 (.inl ?_)
            simp [upz]; omega
          · have : len = 0 := by omega
            subst this
            simp only [Nat.zero_mul, List.take_zero]
            exact .pl [] 0 0 .no b o0 (fun _ => undef) (Nat.le_refl _) (.inr rfl) (fun i h => by simp at h) (fun i h => by simp at h) trivial
      · exact ⟨Z, Goes.refl m, hv⟩
    · exact ⟨Z, Goes.refl m, hv⟩
  · exact ⟨Z, Goes.refl m, hv⟩

theorem freezes_sound : ∀ {as : List AV} {vs : List Value} {Z : Ze} {H : Heap}, MemR cx ψ Z L H w → VRs cx.fm (ph ψ) Z w as vs → ∃ Z', Goes cx ψ Z L H w ψ Z' L (freezes H as).2 w ∧ VRs cx.fm (ph ψ) Z' w (freezes H as).1 vs
  | [], vs, Z, H, m, h => by cases h; exact ⟨Z, Goes.refl m, .nil⟩
  | a :: as, vs, Z, H, m, h => by
    cases h with
    | cons h1 h2 =>
      obtain ⟨Z1, g1, r1⟩ := freeze_sound m h1
      obtain ⟨Z2, g2, r2⟩ := freezes_sound g1.mem (VRs.ext g1.ext h2)
      exact ⟨Z2, g1.trans g2, .cons (r1.ext g2.ext) r2⟩

theorem vr_tup {fm : Fm} {φ : Ph} {cs : List AV} {vs : List Value} (h : VRs fm φ Z w cs vs) : VR fm φ Z w (.tup cs) (.tuple vs.toArray) :=
  .tup _ _ (by simpa using h.len) fun i h1 h2 => by simpa using h.at_ i h1 (by simpa using h2)

theorem forgetL_map : ∀ l, forgetL l = l.map forgetA
  | [] => rfl
  | a :: r => by simp only [forgetL, List.map_cons, forgetL_map r]
theorem forget_vr {fm : Fm} {φ : Ph} {Z : Ze} {w : World} {a : AV} {v : Value} (h : VR fm φ Z w a v) : VR fm φ Z w (forgetA a) v := by
  induction h with
  | bool b => exact .bool b
  | int k n => exact .int k n
  | str s => exact .str s
  | nilp => exact .nilp
  | ptr id off b e h => exact .ptr id off b e h
  | fp cs b off vs hz hc _ ih =>
    simp only [forgetA, forgetL_map]
    refine .fp _ b off vs (by simpa using hz) (fun i hi => hc i (by simpa using hi)) (fun i hi => ?_)
    simp only [List.getElem_map]
    exact ih i (by simpa using hi)
  | sl id off ln esz b e cap sz o h hs hcap hl ho => exact .sl id off ln esz b e cap sz o h hs hcap hl ho
  | plnil => exact .plnil
  | pl cs ln cap tk b off vs hl hz hc _ ht ih =>
    simp only [forgetA, forgetL_map]
    refine .pl _ ln cap _ b off vs hl (by simpa using hz) (fun i hi => hc i (by simpa using hi)) (fun i hi => ?_) ?_
    · simp only [List.getElem_map]
      exact ih i (by simpa using hi)
    · cases tk with
      | live t e => trivial
      | nil => exact ht
      | no => exact ht
      | exact => exact ht
  | map id b e h => exact .map id b e h
  | nilm => exact .nilm
  | func g f first cap first' cap' h h1 h2 _ _ i1 i2 =>
    simp only [forgetA, forgetL_map]
    refine .func g f _ _ first' cap' h (by simpa using h1) (by simpa using h2) (fun i p q => ?_) (fun i p q => ?_)
    · simp only [List.getElem_map]; exact i1 i (by simpa using p) q
    · simp only [List.getElem_map]; exact i2 i (by simpa using p) q
  | nilf => exact .nilf
  | nili => exact .nili
  | agg cs vs h _ ih =>
    simp only [forgetA, forgetL_map]
    refine .agg _ vs (by simpa using h) (fun i p q => ?_)
    simp only [List.getElem_map]; exact ih i (by simpa using p) q
  | tup cs vs h _ ih =>
    simp only [forgetA, forgetL_map]
    refine .tup _ vs (by simpa using h) (fun i p q => ?_)
    simp only [List.getElem_map]; exact ih i (by simpa using p) q
theorem freezeAll_sound (m : MemR cx ψ Z L H w) {a : AV} {v : Value} (hv : VR cx.fm (ph ψ) Z w a v) : ∃ Z', Goes cx ψ Z L H w ψ Z' L (freezeAll H a).2 w ∧ VR cx.fm (ph ψ) Z' w (freezeAll H a).1 v := by
  suffices hq : ∃ Z', Goes cx ψ Z L H w ψ Z' L (freezeAll0 H a).2 w ∧ VR cx.fm (ph ψ) Z' w (freezeAll0 H a).1 v by
    obtain ⟨Z', g, r⟩ := hq
    exact ⟨Z', g, forget_vr r⟩
  unfold freezeAll0
  split
  · obtain ⟨vs, rfl, h⟩ := agg_inv hv
    obtain ⟨Z', g, r⟩ := freezes_sound m h
    exact ⟨Z', g, by simpa using vr_agg r⟩
  · obtain ⟨vs, rfl, h⟩ := tup_inv hv
    obtain ⟨Z', g, r⟩ := freezes_sound m h
    exact ⟨Z', g, by simpa using vr_tup r⟩
  · exact freeze_sound m hv

theorem frzT_om : ∀ (ks : List Nat) (s : St) (η : List Nat), frzT { s with om := η } ks = (frzT s ks).map fun s' => { s' with om := η }
  | [], s, η => rfl
  | k :: ks, s, η => by
    unfold frzT
    dsimp only
    split
    · rename_i a e
      exact frzT_om ks ⟨lset s.T k (.v (freezeAll s.H a).1), s.L, (freezeAll s.H a).2, s.om⟩ η
    · rfl

theorem frzT_sound : ∀ (ks : List Nat) {s s' : St} {a : Act} {Z : Ze}, (∀ k ∈ ks, k < nt) → SR cx nt ψ Z s a w → frzT s ks = some s' → ∃ Z', Goes cx ψ Z s.L s.H w ψ Z' s'.L s'.H w ∧ SR cx nt ψ Z' s' a w
  | [], s, s', a, Z, _, h, hs => by simp [frzT] at hs; subst hs; exact ⟨Z, Goes.refl h.mem, h⟩
  | k :: ks, s, s', a, Z, hk, h, hs => by
    unfold frzT at hs
    split at hs
    · rename_i x e
      have hv := h.tmps k
      rw [e] at hv
      obtain ⟨Z1, g1, r1⟩ := freezeAll_sound h.mem hv
      have hsr : SR cx nt ψ Z1 ⟨lset s.T k (.v (freezeAll s.H x).1), s.L, (freezeAll s.H x).2, s.om⟩ a w := by
        refine ⟨h.defers, h.size, fun j => ?_, g1.mem⟩
        simp only [lget_lset]
        by_cases hj : j = k
        · subst hj; rw [if_pos rfl]; exact r1
        · rw [if_neg hj]; exact (h.tmps j).goes g1
      obtain ⟨Z2, g2, r2⟩ := frzT_sound ks (fun j hj => hk j (by simp [hj])) hsr hs
      exact ⟨Z2, g1.trans g2, r2⟩
    · simp at hs

/-! ### results -/
def okRes (P : Program) : List ResultVar → List ARes → Bool
  | [], [] => true
  | .tmp t :: r, .tmp k :: s => Nat.beq t k && okRes P r s
  | .cell t ty :: r, .cell k n agg :: s => Nat.beq t k && okSize P ty agg n && okRes P r s
  | _, _ => false

theorem loadVar_run {s : St} {a : Act} (h : SR cx nt ψ Z s a w) {t : TV} {v : Value} (hv : TVR cx.fm ψ Z s.H w t v) {cs : List AV} (hc : cellsAt s.L s.H t = some cs) {ty : TypeId} {agg : Bool} {n : Nat} (h2 : okSize cx.P ty agg n = true) {x : AV} (hx : asV agg n cs = some x) :
    ∃ ad val, v = .pointer (some ad) ∧ (loadVar ty ad).run cx.P w = .ok val w ∧ VR cx.fm (ph ψ) Z w x val := by
  obtain ⟨b, off, vs, hp, hcr⟩ := cellsAt_real h hv hc
  obtain ⟨d, hu, hsz, _, _⟩ := okSize_info h2
  refine ⟨⟨b, off, none⟩, ?_⟩
  cases agg with
  | true =>
    simp only [asV, if_true, takeN] at hx
    split at hx
    · rename_i hle
      have hle := Nat.le_of_ble_eq_true hle
      simp only [Option.map_some, Option.some.injEq] at hx
      subst hx
      have ht := hcr.take n
      have hr := ht.run (P := cx.P) (n := n) (by simp; omega)
      exact ⟨.agg (vs.take n).toArray, hp, by simp [loadVar, run_isAgg h2, run_sizeOf hsz, hr], vr_agg ht.rel⟩
    · simp at hx
  | false =>
    simp only [asV, Bool.false_eq_true, if_false] at hx
    cases cs with
    | nil => simp at hx
    | cons c cs =>
      simp only [List.head?_cons, Option.some.injEq] at hx
      subst hx
      obtain ⟨hr, hat⟩ := hcr
      cases hr with
      | @cons _ v _ vs hv hr =>
        have hcell : w.cell? ⟨b, off, none⟩ = some v := by simpa using hat 0 v (by simp)
        exact ⟨v, hp, by simp [loadVar, run_isAgg h2, hcell], hv⟩

theorem resultsL_run {s : St} {a : Act} (h : SR cx nt ψ Z s a w) : ∀ {rs : List ResultVar} {as : List ARes}, okRes cx.P rs as = true → ∀ {xs : List AV}, resultsA s as = some xs →
    ∃ vs, (rs.mapM (fun | .tmp t => pure (a.tmps.getD t undef) | .cell c t => do loadVar t (← asAddr (a.tmps.getD c undef)) : ResultVar → Sem Value)).run cx.P w = .ok vs w ∧ VRs cx.fm (ph ψ) Z w xs vs
  | [], [], _, xs, hx => by simp [resultsA] at hx; subst hx; exact ⟨[], by simp, .nil⟩
  | [], _ :: _, hk, _, _ => by simp [okRes] at hk
  | r :: rs, [], hk, _, _ => by cases r <;> simp [okRes] at hk
  | r :: rs, a0 :: as, hk, xs, hx => by
    unfold resultsA at hx
    split at hx
    · rename_i x l e1 e2
      simp at hx; subst hx
      cases r with
      | tmp t => cases a0 with
        | cell => simp [okRes] at hk
        | tmp k =>
          simp only [okRes, Bool.and_eq_true] at hk
          have := Nat.eq_of_beq_eq_true hk.1
          subst this
          obtain ⟨vs, q1, q2⟩ := resultsL_run h hk.2 e2
          simp only [resultA] at e1
          split at e1
          · rename_i y hy
            simp at e1; subst e1
            have hv := h.tmps t
            rw [hy] at hv
            exact ⟨_ :: vs, by simp only [List.mapM_cons, Sem.run_bind, Sem.run_pure, Result.andThen_ok, q1], .cons hv q2⟩
          · simp at e1
      | cell c ty => cases a0 with
        | tmp => simp [okRes] at hk
        | cell k n agg =>
          simp only [okRes, Bool.and_eq_true] at hk
          have := Nat.eq_of_beq_eq_true hk.1.1
          subst this
          obtain ⟨vs, q1, q2⟩ := resultsL_run h hk.2 e2
          simp only [resultA] at e1
          split at e1
          · rename_i cs hc
            obtain ⟨ad, val, r1, r2, r3⟩ := loadVar_run h (h.tmps c) hc hk.1.2 e1
            have r4 : (asAddr (a.tmps.getD c undef)).run cx.P w = .ok ad w := by rw [r1]; rfl
            exact ⟨val :: vs, by simp only [List.mapM_cons, Sem.run_bind, r4, Sem.run_pure, Result.andThen_ok, r2, q1], .cons r3 q2⟩
          · simp at e1
    · simp at hx

theorem results_run {s : St} {a : Act} (h : SR cx nt ψ Z s a w) {fn : Func} {as : List ARes} (hk : okRes cx.P fn.results.toList as = true) {xs : List AV} (hx : resultsA s as = some xs) :
    ∃ v, (results fn a.tmps).run cx.P w = .ok v w ∧ VR cx.fm (ph ψ) Z w (oneOf xs) v := by
  obtain ⟨vs, h1, h2⟩ := resultsL_run h hk hx
  unfold results
  rw [Array.mapM_eq_mapM_toList]
  have hrun : (do let vs ← (List.toArray <$> fn.results.toList.mapM (fun | .tmp t => pure (a.tmps.getD t undef) | .cell c t => do loadVar t (← asAddr (a.tmps.getD c undef)) : ResultVar → Sem Value)); pure (if h : vs.size = 1 then vs[0] else .tuple vs) : Sem Value).run cx.P w = .ok (if h : vs.toArray.size = 1 then vs.toArray[0] else .tuple vs.toArray) w := by
    simp only [Sem.run_bind, map_eq_pure_bind, bind_assoc, pure_bind, h1, Result.andThen_ok, Sem.run_pure]
  refine ⟨_, hrun, ?_⟩
  have hlen := h2.len
  unfold oneOf
  split
  · rename_i x
    cases h2 with
    | cons ha hr => cases hr; simpa using ha
  · rename_i hne
    have : ¬ vs.toArray.size = 1 := by
      intro h3
      simp at h3
      match xs, hne, hlen with
      | [], _, hlen => simp at hlen; omega
      | [x], hne, _ => exact hne x rfl
      | x :: y :: r, _, hlen => simp at hlen; omega
    rw [dif_neg this]
    exact vr_tup h2

end
end Go.Am
