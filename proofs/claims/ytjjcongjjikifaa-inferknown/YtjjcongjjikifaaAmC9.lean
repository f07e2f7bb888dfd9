/- Maps. -/
import Derived.Test.YtjjcongjjikifaaAmC8
set_option linter.unusedVariables false
set_option linter.unusedSimpArgs false
namespace Go.Am

theorem checkKey_one {P : Program} {t : TypeId} {k : KK} (h : kindOf P t = some k) (e : Bool) (n : Nat) (v : Value) (w : World) : (Instr.checkKey e (n + 1) t v).run P w = .ok () w := by
  unfold kindOf at h
  split at h <;> first
    | (simp at h; done)
    | (rename_i hu
       cases v <;> simp [Instr.checkKey, run_underlying hu])

theorem part_one {P : Program} {t : TypeId} {k : KK} (h : kindOf P t = some k) (xs : Array Value) (i : Nat) {v : Value} (hv : xs[i]? = some v) (w : World) : (part t xs i).run P w = .ok v w := by
  simp [part, kk_agg h, hv]

theorem checkFields {P : Program} {e : Bool} {n : Nat} (xs : Array Value) (w : World) : ∀ (fs : List Field) (i : Nat) (ks : List KK), okFields P fs i ks = true → i + ks.length ≤ xs.size →
    (forIn fs PUnit.unit (fun f r => if f.name ≠ "_" then (do let x ← part f.type xs f.offset; Instr.checkKey e (n + 1) f.type x; pure (ForInStep.yield PUnit.unit)) else pure (ForInStep.yield PUnit.unit)) : Sem PUnit).run P w = .ok PUnit.unit w
  | [], i, ks, _, _ => by simp
  | f :: fs, i, ks, hf, hl => by
    cases ks with
    | nil => simp [okFields] at hf
    | cons k ks =>
      simp only [okFields, Bool.and_eq_true, decide_eq_true_eq] at hf
      obtain ⟨⟨⟨h1, h2⟩, h3⟩, h4⟩ := hf
      have h2 := Nat.eq_of_beq_eq_true h2
      simp only [List.length_cons] at hl
      have hx : xs[f.offset]? = some (xs[f.offset]'(by omega)) := Array.getElem?_eq_getElem (by omega)
      have ih := checkFields (e := e) (n := n) xs w fs (i + 1) ks h4 (by omega)
      simp only [List.forIn_cons, Sem.run_bind, h1, ne_eq, not_false_eq_true, if_true, part_one h3 xs _ hx, Result.andThen_ok, checkKey_one h3, Sem.run_pure]
      exact ih

theorem forRange {P : Program} {w : World} (n : Nat) (body : Nat → Sem (ForInStep PUnit)) (h : ∀ i, i < n → (body i).run P w = .ok (.yield PUnit.unit) w) : ((forIn [:n] PUnit.unit (fun i r => body i) : Sem PUnit).run P w).andThen (fun a w' => Sem.run P (pure ()) w') = .ok () w := by
  have key : ∀ (l : List Nat), (∀ i ∈ l, i < n) → (forIn l PUnit.unit (fun i r => body i) : Sem PUnit).run P w = .ok PUnit.unit w := by
    intro l
    induction l with
    | nil => intro _; simp
    | cons i l ih =>
      intro hl
      simp only [List.forIn_cons, Sem.run_bind, h i (hl i (by simp)), Result.andThen_ok]
      exact ih fun j hj => hl j (by simp [hj])
  simp only [Std.Legacy.Range.forIn_eq_forIn_range', Std.Legacy.Range.size, Nat.sub_zero, Nat.add_one_sub_one, Nat.div_one]
  rw [key (List.range' 0 n) (fun i hi => by simp at hi; omega)]
  rfl

theorem flatOk_len : ∀ {ks : List KK} {as : List AV}, flatOk ks as = true → ks.length = as.length
  | [], [], _ => rfl
  | [], _ :: _, h => by simp [flatOk] at h
  | _ :: _, [], h => by simp [flatOk] at h
  | k :: ks, a :: as, h => by
    simp only [flatOk, Bool.and_eq_true] at h
    simp [flatOk_len h.2]

theorem checkKey_run {P : Program} {t : TypeId} {kt : KT} (hk : okKT P t kt = true) {fm : Fm} {φ : Ph} {Z : Ze} {w : World} {key : AV} {x : Value} (ho : ktOk kt key = true) (hv : VR fm φ Z w key x) (e : Bool) (n : Nat) : (Instr.checkKey e (n + 2) t x).run P w = .ok () w := by
  cases kt with
  | one k => exact checkKey_one (of_decide_eq_true hk) e _ x w
  | flat ks =>
    cases key <;> simp [ktOk] at ho
    rename_i cs
    obtain ⟨xs, rfl, hx⟩ := agg_inv hv
    have hl := hx.len
    have hlk := flatOk_len ho
    simp only [okKT, okFlat] at hk
    split at hk
    · rename_i fs hu
      simp only [Bool.and_eq_true] at hk
      unfold Instr.checkKey
      simp only [Sem.run_bind, run_underlying hu, Result.andThen_ok]
      rw [← Array.forIn_toList]
      have := checkFields (P := P) (e := e) (n := n) xs w fs.toList 0 ks hk.1.1 (by simp at hl; omega)
      rw [this]; rfl
    · rename_i m el hu
      simp only [Bool.and_eq_true, decide_eq_true_eq, List.all_eq_true] at hk
      obtain ⟨⟨⟨h1, h2⟩, h3⟩, h4⟩ := hk
      have h1 := Nat.eq_of_beq_eq_true h1
      unfold Instr.checkKey
      simp only [Sem.run_bind, run_underlying hu, Result.andThen_ok]
      refine forRange (P := P) (w := w) m (fun i => do let a ← sizeOf el; let b ← part el xs (i * a); Instr.checkKey e (n + 1) el b; pure (ForInStep.yield PUnit.unit)) (fun i hi => ?_)
      have hne : ∃ k, k ∈ ks := by
        cases ks with
        | nil => simp at h1; omega
        | cons k ks => exact ⟨k, by simp⟩
      obtain ⟨k, hkm⟩ := hne
      have hkk := h2 k hkm
      have hx : xs[i]? = some (xs[i]'(by simp at hl; omega)) := Array.getElem?_eq_getElem (by simp at hl; omega)
      simp only [Sem.run_bind, run_sizeOf h3, Result.andThen_ok, Nat.mul_one, part_one hkk xs _ hx, checkKey_one hkk, Sem.run_pure]
    · simp at hk

theorem eq1_eq {fm : Fm} {φ : Ph} {Z : Ze} {w : World} {a b : AV} {x y : Value} (h : eq1 a b = some true) (hx : VR fm φ Z w a x) (hy : VR fm φ Z w b y) : x = y ∧ ∀ n, Instr.sameBits n x x = true := by
  unfold eq1 at h
  split at h
  · split at h
    · simp at h; subst h; rename_i hk; subst hk; cases hx; cases hy; exact ⟨rfl, fun n => by simp [Instr.sameBits]⟩
    · simp at h
  · simp at h; subst h; cases hx; cases hy; exact ⟨rfl, fun n => by simp [Instr.sameBits, beq_toListBytes]⟩
  · simp at h; subst h; cases hx; cases hy; exact ⟨rfl, fun n => by simp [Instr.sameBits, beq_toListBytes]⟩
  · simp at h
theorem eqs_eq {fm : Fm} {φ : Ph} {Z : Ze} {w : World} : ∀ {as bs : List AV} {xs ys : List Value}, eqs as bs = some true → VRs fm φ Z w as xs → VRs fm φ Z w bs ys → xs = ys ∧ ∀ n, (xs.zip xs).all (fun p => Instr.sameBits n p.1 p.2) = true
  | [], [], xs, ys, h, hx, hy => by cases hx; cases hy; exact ⟨rfl, fun n => rfl⟩
  | [], _ :: _, xs, ys, h, hx, hy => by simp [eqs] at h
  | _ :: _, [], xs, ys, h, hx, hy => by simp [eqs] at h
  | a :: as, b :: bs, xs, ys, h, hx, hy => by
    obtain ⟨p, q, e1, e2, e3⟩ := eqs_none_or h
    have e3 : p = true ∧ q = true := by revert e3; cases p <;> cases q <;> simp
    obtain ⟨rfl, rfl⟩ := e3
    cases hx with
    | cons ha hx =>
    cases hy with
    | cons hb hy =>
      obtain ⟨r1, r2⟩ := eq1_eq e1 ha hb
      obtain ⟨r3, r4⟩ := eqs_eq e2 hx hy
      subst r1; subst r3
      exact ⟨rfl, fun n => by rw [List.zip_cons_cons, List.all_cons, r4 n, Bool.and_true]; exact r2 n⟩
theorem keyEq_eq {fm : Fm} {φ : Ph} {Z : Ze} {w : World} {a b : AV} {x y : Value} (h : keyEq a b = some true) (hx : VR fm φ Z w a x) (hy : VR fm φ Z w b y) : x = y ∧ ∀ n, Instr.sameBits (n + 1) x x = true := by
  unfold keyEq at h
  split at h
  · obtain ⟨xs, rfl, hx'⟩ := agg_inv hx
    obtain ⟨ys, rfl, hy'⟩ := agg_inv hy
    obtain ⟨r1, r2⟩ := eqs_eq h hx' hy'
    have : xs = ys := Array.ext' r1
    subst this
    exact ⟨rfl, fun n => by simp only [Instr.sameBits, beq_self_eq_true, Bool.true_and]; exact r2 n⟩
  · obtain ⟨r1, r2⟩ := eq1_eq h hx hy
    exact ⟨r1, fun n => r2 _⟩

/-- What a search finds. -/
structure Found (fm : Fm) (φ : Ph) (Z : Ze) (w : World) (key : AV) (es : List (AV × AV)) (ms : List MapEntry) (v : AV) (j : Nat) (m : MapEntry) : Prop where
  at_ : ms[j]? = some m
  val : VR fm φ Z w v m.val
  put : ∃ k', es[j]? = some (k', v) ∧ keyEq key k' = some true ∧ ∀ u, mput key u es = es.set j (k', u)
  pre : ∀ i, i < j → ∃ p, es[i]? = some p ∧ keyEq key p.1 ≠ some true

theorem mfind_cons {key : AV} {k v : AV} {es : List (AV × AV)} {r : Option AV} (h : mfind key ((k, v) :: es) = some r) : (keyEq key k = some true ∧ r = some v) ∨ (keyEq key k = some false ∧ mfind key es = some r) := by
  unfold mfind at h
  split at h
  · rename_i hq; simp at h; exact .inl ⟨hq, h.symm⟩
  · rename_i hq; exact .inr ⟨hq, h⟩
  · simp at h
theorem mput_none {key : AV} : ∀ {es : List (AV × AV)}, mfind key es = some none → ∀ u, mput key u es = es ++ [(key, u)]
  | [], _, u => rfl
  | (k, v) :: es, h, u => by
    rcases mfind_cons h with ⟨_, h2⟩ | ⟨h1, h2⟩
    · simp at h2
    · unfold mput
      rw [h1]; simp [mput_none h2 u]
theorem Found.cons {fm : Fm} {φ : Ph} {Z : Ze} {w : World} {key : AV} {es : List (AV × AV)} {ms : List MapEntry} {v : AV} {j : Nat} {m : MapEntry} (h : Found fm φ Z w key es ms v j m) {k x : AV} {m0 : MapEntry} (hk : keyEq key k = some false) : Found fm φ Z w key ((k, x) :: es) (m0 :: ms) v (j + 1) m := by
  obtain ⟨h1, h2, ⟨k', h3, h4, h5⟩, h6⟩ := h
  refine ⟨by simpa using h1, h2, ⟨k', by simpa using h3, h4, fun u => ?_⟩, fun i hi => ?_⟩
  · unfold mput
    rw [hk]; simp [h5 u]
  · cases i with
    | zero => exact ⟨(k, x), rfl, by simp [hk]⟩
    | succ i => obtain ⟨p, q1, q2⟩ := h6 i (by omega); exact ⟨p, by simpa using q1, q2⟩

theorem findNow_run {P : Program} {t : TypeId} {k : KK} (hk : kindOf P t = some k) {d : TypeDesc} (hd : P.underlying t = some d) {fm : Fm} {φ : Ph} {Z : Ze} {w : World} {key : AV} {x : Value} (ho : kkOk k key = true) (hx : VR fm φ Z w key x) :
    ∀ (es : List (AV × AV)) (ms : List MapEntry) (i : Nat) (r : Option AV), All2 (ER fm φ Z w) es ms → mfind key es = some r →
      (r = none ∧ Instr.findNow d x ms i = some none) ∨ ∃ v j m, r = some v ∧ Found fm φ Z w key es ms v j m ∧ Instr.findNow d x ms i = some (some (i + j, m.val))
  | [], ms, i, r, hr, hm => by cases hr; simp [mfind] at hm; subst hm; exact .inl ⟨rfl, rfl⟩
  | (k', v) :: es, ms, i, r, hr, hm => by
    cases hr with
    | @cons _ m _ ms he hr =>
      have hsame : ∀ b, keyEq key k' = some b → Instr.sameNow d x m.key = some b := fun b hb => by
        have hke := he.key
        simp only at hke
        unfold kindOf at hk
        rw [hd] at hk
        split at hk
        · rename_i q hq; simp at hk hq; subst hk; subst hq
          cases key <;> simp [kkOk] at ho
          subst ho
          cases k' <;> simp [keyEq, eq1] at hb
          obtain ⟨e1, e2⟩ := hb
          subst e1
          generalize hmk : m.key = mk at hke
          cases hx; cases hke
          simp [Instr.sameNow, ← e2]
          congr 1
        · rename_i hq; simp at hk hq; subst hk; subst hq
          cases key <;> simp [kkOk] at ho
          cases k' <;> simp [keyEq, eq1] at hb
          generalize hmk : m.key = mk at hke
          cases hx; cases hke
          simp only [Instr.sameNow, ← hb]
          congr 1
          rename_i l1 l2
          rw [beq_toListBytes, ByteArray.toList_eq, ByteArray.toList_eq]
          rw [Bool.eq_iff_iff]; simp
        · rename_i hq; simp at hk hq; subst hk; subst hq
          cases key <;> simp [kkOk] at ho
          cases k' <;> simp [keyEq, eq1] at hb
          generalize hmk : m.key = mk at hke
          cases hx; cases hke
          simp only [Instr.sameNow, ← hb]
          congr 1
        · simp at hk
      rcases mfind_cons hm with ⟨h1, rfl⟩ | ⟨h1, h2⟩
      · right
        refine ⟨v, 0, m, rfl, ⟨rfl, he.val, ⟨k', rfl, h1, fun u => ?_⟩, fun i hi => by omega⟩, ?_⟩
        · unfold mput; rw [h1]; simp
        · simp [Instr.findNow, hsame _ h1]
      · rcases findNow_run hk hd ho hx es ms (i + 1) r hr h2 with ⟨rfl, h3⟩ | ⟨v', j, m', rfl, h3, h4⟩
        · left; exact ⟨rfl, by simp [Instr.findNow, hsame _ h1, h3]⟩
        · right
          refine ⟨v', j + 1, m', rfl, h3.cons h1, ?_⟩
          simp only [Instr.findNow, hsame _ h1, h4]
          congr 3; omega

theorem findAsking_run {P : Program} {t : TypeId} {ks : List KK} (hk : okFlat P t ks = true) {fm : Fm} {φ : Ph} {Z : Ze} {w : World} {cs : List AV} {xs : Array Value} (ho : flatOk ks cs = true) (hx : VRs fm φ Z w cs xs.toList) :
    ∀ (es : List (AV × AV)) (ms : List MapEntry) (i : Nat) (r : Option AV), All2 (ER fm φ Z w) es ms → mfind (.agg cs) es = some r →
      (r = none ∧ (Instr.findAsking t (.agg xs) ms i).run P w = .ok none w) ∨ ∃ v j m, r = some v ∧ Found fm φ Z w (.agg cs) es ms v j m ∧ (Instr.findAsking t (.agg xs) ms i).run P w = .ok (some (i + j, m.val)) w
  | [], ms, i, r, hr, hm => by cases hr; simp [mfind] at hm; subst hm; exact .inl ⟨rfl, by simp [Instr.findAsking]⟩
  | (k', v) :: es, ms, i, r, hr, hm => by
    cases hr with
    | @cons _ m _ ms he hr =>
      have hsame : ∀ b, keyEq (.agg cs) k' = some b → (Op.equal t (.agg xs) m.key).run P w = .ok b w := fun b hb => by
        have hke := he.key
        simp only at hke
        cases k' <;> simp [keyEq, eq1] at hb
        rename_i cs'
        obtain ⟨ys, hys, hy⟩ := agg_inv hke
        rw [hys]
        have key : ∀ {ks : List KK} {as bs : List AV} {b : Bool}, flatOk ks as = true → eqs as bs = some b → flatOk ks bs = true := by
          intro ks
          induction ks with
          | nil => intro as bs b h1 h2; cases as <;> simp [flatOk] at h1; cases bs <;> simp [eqs] at h2; rfl
          | cons k ks ih =>
            intro as bs b h1 h2
            cases as with
            | nil => simp [flatOk] at h1
            | cons a as =>
              cases bs with
              | nil => simp [eqs] at h2
              | cons c bs =>
                simp only [flatOk, Bool.and_eq_true] at h1 ⊢
                obtain ⟨x, y, e1, e2, _⟩ := eqs_none_or h2
                refine ⟨?_, ih h1.2 e2⟩
                unfold eq1 at e1
                split at e1
                · split at e1
                  · rename_i hjk; subst hjk
                    have := h1.1
                    cases k <;> simp [kkOk] at this ⊢
                    exact this
                  · simp at e1
                · have := h1.1; cases k <;> simp [kkOk] at this ⊢
                · have := h1.1; cases k <;> simp [kkOk] at this ⊢
                · simp at e1
        exact flat_run hk ho (key ho hb) hx hy hb 9998 w
      rcases mfind_cons hm with ⟨h1, rfl⟩ | ⟨h1, h2⟩
      · right
        refine ⟨v, 0, m, rfl, ⟨rfl, he.val, ⟨k', rfl, h1, fun u => ?_⟩, fun i hi => by omega⟩, ?_⟩
        · unfold mput; rw [h1]; simp
        · simp [Instr.findAsking, hsame _ h1]
      · rcases findAsking_run hk ho hx es ms (i + 1) r hr h2 with ⟨rfl, h3⟩ | ⟨v', j, m', rfl, h3, h4⟩
        · left; exact ⟨rfl, by simp [Instr.findAsking, hsame _ h1, h3]⟩
        · right
          refine ⟨v', j + 1, m', rfl, h3.cons h1, ?_⟩
          simp only [Instr.findAsking, Sem.run_bind, hsame _ h1, Result.andThen_ok, Bool.false_eq_true, if_false, h4]
          congr 3; omega

theorem findKey_run {P : Program} {t : TypeId} {kt : KT} (hk : okKT P t kt = true) {fm : Fm} {φ : Ph} {Z : Ze} {w : World} {key : AV} {x : Value} (ho : ktOk kt key = true) (hx : VR fm φ Z w key x) {es : List (AV × AV)} {ms : List MapEntry} {r : Option AV} (hr : All2 (ER fm φ Z w) es ms) (hm : mfind key es = some r) :
    (r = none ∧ (Instr.findKey t x ms).run P w = .ok none w) ∨ ∃ v j m, r = some v ∧ Found fm φ Z w key es ms v j m ∧ (Instr.findKey t x ms).run P w = .ok (some (j, m.val)) w := by
  cases kt with
  | one k =>
    have hk := of_decide_eq_true hk
    have hd : ∃ d, P.underlying t = some d := by
      unfold kindOf at hk
      split at hk <;> first | exact ⟨_, by assumption⟩ | simp at hk
    obtain ⟨d, hd⟩ := hd
    rcases findNow_run hk hd ho hx es ms 0 r hr hm with ⟨h1, h2⟩ | ⟨v, j, m, h1, h2, h3⟩
    · exact .inl ⟨h1, by simp [Instr.findKey, run_underlying hd, h2]⟩
    · exact .inr ⟨v, j, m, h1, h2, by simp [Instr.findKey, run_underlying hd, h3]⟩
  | flat ks =>
    cases key <;> simp [ktOk] at ho
    rename_i cs
    obtain ⟨xs, rfl, hx'⟩ := agg_inv hx
    have hd : ∃ d, P.underlying t = some d ∧ ∀ y, Instr.sameNow d (.agg xs) y = none := by
      simp only [okKT, okFlat] at hk
      split at hk
      · exact ⟨_, by assumption, fun y => rfl⟩
      · exact ⟨_, by assumption, fun y => rfl⟩
      · simp at hk
    obtain ⟨d, hd, hn⟩ := hd
    cases hr with
    | nil =>
      simp [mfind] at hm; subst hm
      exact .inl ⟨rfl, by simp [Instr.findKey, run_underlying hd, Instr.findNow]⟩
    | @cons e m es ms he hr =>
      have hfn : Instr.findNow d (.agg xs) (m :: ms) 0 = none := by simp [Instr.findNow, hn]
      rcases findAsking_run hk ho hx' _ _ 0 r (.cons he hr) hm with ⟨h1, h2⟩ | ⟨v, j, m', h1, h2, h3⟩
      · exact .inl ⟨h1, by simp [Instr.findKey, run_underlying hd, hfn, h2]⟩
      · exact .inr ⟨v, j, m', h1, h2, by simp only [Instr.findKey, Sem.run_bind, run_underlying hd, Result.andThen_ok, hfn, h3]; simp⟩

end Go.Am
