/- Operations that change nothing: comparisons, parts, places, slices of slices. -/
import Derived.Test.YtjjcongjjikifaaAmC1
import Derived.Laws.StructEq
import Derived.ChangeKeysEq
set_option linter.unusedVariables false
set_option linter.unusedSimpArgs false
namespace Go.Am

theorem kk_agg {P : Program} {t : TypeId} {k : KK} (h : kindOf P t = some k) (w : World) : (isAgg t).run P w = .ok false w := by
  unfold kindOf at h
  split at h <;> first | (simp at h; done) | simp [isAgg, run_underlying (by assumption : P.underlying t = some _)]

theorem eq1_run {P : Program} {t : TypeId} {k : KK} (hk : kindOf P t = some k) {fm : Fm} {φ : Ph} {Z : Ze} {w : World} {a b : AV} {x y : Value} (ha : kkOk k a = true) (hb : kkOk k b = true) (hx : VR fm φ Z w a x) (hy : VR fm φ Z w b y) {r : Bool} (he : eq1 a b = some r) (d : Nat) (W : World) :
    (Op.equalIn (d + 1) t x y).run P W = .ok r W := by
  unfold kindOf at hk
  split at hk
  · rename_i q hq
    simp at hk; subst hk
    cases a <;> simp [kkOk] at ha
    cases b <;> simp [kkOk] at hb
    cases hx; cases hy
    subst ha; subst hb
    simp [eq1] at he; subst he
    rw [run_equalIn_int W d t _ _ _ _ hq]
    congr 1
  · rename_i hq
    simp at hk; subst hk
    cases a <;> simp [kkOk] at ha
    cases b <;> simp [kkOk] at hb
    cases hx; cases hy
    simp [eq1] at he; subst he
    rw [run_equalIn_string W d t _ _ hq]
    rw [ByteArray.toList_eq, ByteArray.toList_eq]
    congr 1
    rename_i l1 l2
    rw [Bool.eq_iff_iff]; simp
  · rename_i hq
    simp at hk; subst hk
    cases a <;> simp [kkOk] at ha
    cases b <;> simp [kkOk] at hb
    cases hx; cases hy
    simp [eq1] at he; subst he
    rw [run_equalIn_bool' W d t _ _ hq]
    congr 1
  · simp at hk

theorem eqs_none_or {a b : AV} {as bs : List AV} {r : Bool} (h : eqs (a :: as) (b :: bs) = some r) : ∃ x y, eq1 a b = some x ∧ eqs as bs = some y ∧ r = (x && y) := by
  unfold eqs at h
  split at h
  · rename_i x y h1 h2; simp at h; exact ⟨x, y, h1, h2, h.symm⟩
  · simp at h

theorem fields_run {P : Program} {fm : Fm} {φ : Ph} {Z : Ze} {w : World} (xs ys : Array Value) (d : Nat) (W : World) : ∀ (fs : List Field) (i : Nat) (ks : List KK) (as bs : List AV) (vs us : List Value), okFields P fs i ks = true → flatOk ks as = true → flatOk ks bs = true →
    VRs fm φ Z w as vs → VRs fm φ Z w bs us → (∀ j, xs[i + j]? = vs[j]?) → (∀ j, ys[i + j]? = us[j]?) → ∀ r, eqs as bs = some r → (Op.eqFields (d + 1) xs ys fs).run P W = .ok r W
  | [], i, ks, as, bs, vs, us, hf, ha, hb, hv, hu, hx, hy, r, he => by
    cases ks with
    | cons k ks => simp [okFields] at hf
    | nil =>
      cases as <;> simp [flatOk] at ha
      cases bs <;> simp [flatOk] at hb
      simp [eqs] at he; subst he
      simp [Op.eqFields]
  | f :: fs, i, ks, as, bs, vs, us, hf, ha, hb, hv, hu, hx, hy, r, he => by
    cases ks with
    | nil => simp [okFields] at hf
    | cons k ks =>
      simp only [okFields, Bool.and_eq_true, decide_eq_true_eq] at hf
      obtain ⟨⟨⟨h1, h2⟩, h3⟩, h4⟩ := hf
      have h2 := Nat.eq_of_beq_eq_true h2
      cases hv with
      | nil => simp [flatOk] at ha
      | @cons a v as vs hav hv =>
      cases hu with
      | nil => simp [flatOk] at hb
      | @cons b u bs us hbu hu =>
        simp only [flatOk, Bool.and_eq_true] at ha hb
        obtain ⟨x, y, e1, e2, rfl⟩ := eqs_none_or he
        have hx0 : xs[f.offset]? = some v := by rw [h2]; simpa using hx 0
        have hy0 : ys[f.offset]? = some u := by rw [h2]; simpa using hy 0
        have ih := fields_run (fm := fm) (φ := φ) (Z := Z) (w := w) xs ys d W fs (i + 1) ks as bs vs us h4 ha.2 hb.2 hv hu (fun j => by have := hx (j + 1); simpa [Nat.add_assoc, Nat.add_comm 1] using this) (fun j => by have := hy (j + 1); simpa [Nat.add_assoc, Nat.add_comm 1] using this) y e2
        have hq := eq1_run h3 ha.1 hb.1 hav hbu e1 d W
        simp only [Op.eqFields, h1, ne_eq, not_false_eq_true, if_true, Sem.run_bind, part, kk_agg h3, Result.andThen_ok, Bool.false_eq_true, if_false, hx0, hy0, Sem.run_pure, hq]
        cases x
        · simp
        · simpa using ih

theorem items_run {P : Program} {e : TypeId} {fm : Fm} {φ : Ph} {Z : Ze} {w : World} (hsz : P.cellsOf e = 1) (xs ys : Array Value) (d : Nat) (W : World) : ∀ (n i : Nat) (ks : List KK) (as bs : List AV) (vs us : List Value), ks.length = n → (∀ k ∈ ks, kindOf P e = some k) → flatOk ks as = true → flatOk ks bs = true →
    VRs fm φ Z w as vs → VRs fm φ Z w bs us → (∀ j, xs[i + j]? = vs[j]?) → (∀ j, ys[i + j]? = us[j]?) → ∀ r, eqs as bs = some r → (Op.eqItems (d + 1) e (P.cellsOf e) xs ys (List.range' i n)).run P W = .ok r W
  | 0, i, ks, as, bs, vs, us, hn, hf, ha, hb, hv, hu, hx, hy, r, he => by
    cases ks with
    | cons k ks => simp at hn
    | nil =>
      cases as <;> simp [flatOk] at ha
      cases bs <;> simp [flatOk] at hb
      simp [eqs] at he; subst he
      simp [Op.eqItems]
  | n + 1, i, ks, as, bs, vs, us, hn, hf, ha, hb, hv, hu, hx, hy, r, he => by
    cases ks with
    | nil => simp at hn
    | cons k ks =>
      have h3 := hf k (by simp)
      cases hv with
      | nil => simp [flatOk] at ha
      | @cons a v as vs hav hv =>
      cases hu with
      | nil => simp [flatOk] at hb
      | @cons b u bs us hbu hu =>
        simp only [flatOk, Bool.and_eq_true] at ha hb
        obtain ⟨x, y, e1, e2, rfl⟩ := eqs_none_or he
        have hx0 : xs[i]? = some v := by simpa using hx 0
        have hy0 : ys[i]? = some u := by simpa using hy 0
        have ih := items_run (fm := fm) (φ := φ) (Z := Z) (w := w) hsz xs ys d W n (i + 1) ks as bs vs us (by simpa using hn) (fun k hk => hf k (by simp [hk])) ha.2 hb.2 hv hu (fun j => by have := hx (j + 1); simpa [Nat.add_assoc, Nat.add_comm 1] using this) (fun j => by have := hy (j + 1); simpa [Nat.add_assoc, Nat.add_comm 1] using this) y e2
        have hq := eq1_run h3 ha.1 hb.1 hav hbu e1 d W
        rw [hsz] at ih ⊢
        simp only [List.range'_succ, Op.eqItems, Nat.mul_one, Sem.run_bind, part, kk_agg h3, Result.andThen_ok, Bool.false_eq_true, if_false, hx0, hy0, Sem.run_pure, hq]
        cases x
        · simp
        · simpa using ih

theorem flat_run {P : Program} {t : TypeId} {ks : List KK} (hf : okFlat P t ks = true) {fm : Fm} {φ : Ph} {Z : Ze} {w : World} {as bs : List AV} {xs ys : Array Value} (ha : flatOk ks as = true) (hb : flatOk ks bs = true) (hx : VRs fm φ Z w as xs.toList) (hy : VRs fm φ Z w bs ys.toList) {r : Bool} (he : eqs as bs = some r) (d : Nat) (W : World) :
    (Op.equalIn (d + 2) t (.agg xs) (.agg ys)).run P W = .ok r W := by
  unfold okFlat at hf
  split at hf
  · rename_i fs hu
    simp only [Bool.and_eq_true, Bool.not_eq_true'] at hf
    have hfs : P.fieldsOf t = fs := by simp [Program.fieldsOf, hu]
    rw [run_equalIn_struct W (d + 1) t xs ys (by rw [hfs]; exact hu) hf.1.2, hfs]
    exact fields_run xs ys d W fs.toList 0 ks as bs _ _ hf.1.1 ha hb hx hy (fun j => by simp) (fun j => by simp) r he
  · rename_i n e hu
    simp only [Bool.and_eq_true, Bool.not_eq_true', decide_eq_true_eq, List.all_eq_true] at hf
    obtain ⟨⟨⟨h1, h2⟩, h3⟩, h4⟩ := hf
    have h1 := Nat.eq_of_beq_eq_true h1
    cases hi : P.info? e with
    | none => simp [hi] at h3
    | some i =>
      simp [hi] at h3
      rw [run_equalIn_array W (d + 1) xs ys hu hi, List.range_eq_range']
      exact items_run (by simp [Program.cellsOf, hi, h3]) xs ys d W n 0 ks as bs _ _ h1.symm h2 ha hb hx hy (fun j => by simp) (fun j => by simp) r he
  · simp at hf

theorem okFlat_guard {P : Program} {t : TypeId} {ks : List KK} (hf : okFlat P t ks = true) : P.eqGuardType P.depth t = false := by
  unfold okFlat at hf
  split at hf
  · simp only [Bool.and_eq_true, Bool.not_eq_true'] at hf; exact hf.2
  · simp only [Bool.and_eq_true, Bool.not_eq_true'] at hf; exact hf.2
  · simp at hf

theorem agg_inv {fm : Fm} {φ : Ph} {Z : Ze} {w : World} {cs : List AV} {v : Value} (h : VR fm φ Z w (.agg cs) v) : ∃ xs : Array Value, v = .agg xs ∧ VRs fm φ Z w cs xs.toList := by
  cases h with
  | agg _ vs hl hr => exact ⟨vs, rfl, vrs_of (by simpa using hl) fun i h1 h2 => by simpa using hr i h1 (by simpa using h2)⟩
theorem tup_inv {fm : Fm} {φ : Ph} {Z : Ze} {w : World} {cs : List AV} {v : Value} (h : VR fm φ Z w (.tup cs) v) : ∃ xs : Array Value, v = .tuple xs ∧ VRs fm φ Z w cs xs.toList := by
  cases h with
  | tup _ vs hl hr => exact ⟨vs, rfl, vrs_of (by simpa using hl) fun i h1 h2 => by simpa using hr i h1 (by simpa using h2)⟩
theorem pl_inv {fm : Fm} {φ : Ph} {Z : Ze} {w : World} {cs : List AV} {n : Nat} {tk : Tk} {v : Value} (h : VR fm φ Z w (.pl cs n tk) v) : ∃ ad cap, v = .slice ad n cap ∧ (tk = .nil ↔ ad = none) := by
  cases h with
  | plnil => exact ⟨_, _, rfl, by simp⟩
  | pl _ _ _ _ _ _ _ _ _ _ _ ht => exact ⟨_, _, rfl, by cases tk <;> simp_all [TkR]⟩
theorem sl_inv {fm : Fm} {φ : Ph} {Z : Ze} {w : World} {id off ln esz : Nat} {v : Value} (h : VR fm φ Z w (.sl id off ln esz) v) : ∃ b e cap sz o, v = .slice (some ⟨b, o, none⟩) ln cap ∧ φ id = some (b, e) ∧ rowSize w b = some sz ∧ e + off + cap * esz ≤ sz ∧ ln ≤ cap ∧ (o = e + off ∨ cap = 0) := by
  cases h with
  | sl _ _ _ _ b e cap sz o h hs hc hl ho => exact ⟨b, e, cap, sz, o, rfl, h, hs, hc, hl, ho⟩

section
variable {cx : Cx} {nt : Nat} {ψ : Ps} {Z : Ze} {s : St} {a : Act} {w : World} {o : Oper} {tv : TV} {L' : Boxes} {H' : Heap}

theorem okBTy_bool {P : Program} {t : TypeId} (h : okBTy P t .bool = true) : P.underlying t = some .bool := by
  simp only [okBTy] at h
  split at h
  · assumption
  · simp at h
theorem okBTy_slice {P : Program} {t : TypeId} (h : okBTy P t .slice = true) : ∃ e, P.underlying t = some (.slice e) := by
  simp only [okBTy] at h
  split at h
  · exact ⟨_, by assumption⟩
  · simp at h
theorem equalIn_slice {P : Program} {t e : TypeId} (ht : P.underlying t = some (.slice e)) (d : Nat) (b : Option Addr) (n m n' m' : Nat) (w : World) : (Op.equalIn (d + 1) t (.slice b n m) (.slice none n' m')).run P w = .ok b.isNone w := by
  cases b <;> simp [Op.equalIn, run_underlying ht]
theorem eql_slice {P : Program} {t e : TypeId} (ht : P.underlying t = some (.slice e)) (x y : Operand) (b : Option Addr) (n m n' m' : Nat) (w : World) :
    (do eqGuard .eql t x y (.slice b n m) (.slice none n' m'); Go.binOp .eql t (.slice b n m) (.slice none n' m') : Sem Value).run P w = .ok (.bool b.isNone) w := by
  have h := equalIn_slice ht 9999 b n m n' m' w
  rw [eqGuard_at_slice]
  have : (Go.binOp .eql t (.slice b n m) (.slice none n' m')) = (do pure (.bool (← Op.equalIn 10000 t (.slice b n m) (.slice none n' m'))) : Sem Value) := rfl
  rw [this]
  simp only [Sem.run_bind, Sem.run_pure, Result.andThen_ok, h]
theorem neq_slice {P : Program} {t e : TypeId} (ht : P.underlying t = some (.slice e)) (x y : Operand) (b : Option Addr) (n m n' m' : Nat) (w : World) :
    (do eqGuard .neq t x y (.slice b n m) (.slice none n' m'); Go.binOp .neq t (.slice b n m) (.slice none n' m') : Sem Value).run P w = .ok (.bool (!b.isNone)) w := by
  have h := equalIn_slice ht 9999 b n m n' m' w
  rw [eqGuard_at_slice]
  have : (Go.binOp .neq t (.slice b n m) (.slice none n' m')) = (do pure (.bool (!(← Op.equalIn 10000 t (.slice b n m) (.slice none n' m')))) : Sem Value) := rfl
  rw [this]
  simp only [Sem.run_bind, Sem.run_pure, Result.andThen_ok, h]
theorem guard_int {op : BinOp} {t : TypeId} {x y : Operand} {k : IntKind} {n : Int} {v : Value} : eqGuard op t x y (.int k n) v = pure () := eqGuard_at_int op t x y v k n

theorem binOp_run {t : TypeId} {ty : BTy} {op : BinOp} {x y : Operand} {A B r : AV} {u v : Value} (hty : okBTy cx.P t ty = true) (hA : VR cx.fm (ph ψ) Z w A u) (hB : VR cx.fm (ph ψ) Z w B v) (hr : binOp ty op A B = some r) :
    ∃ val, (do eqGuard op t x y u v; Go.binOp op t u v : Sem Value).run cx.P w = .ok val w ∧ VR cx.fm (ph ψ) Z w r val := by
  unfold binOp at hr
  split at hr
  · -- ints
    rename_i k p k' q
    cases hA; cases hB
    split at hr
    · simp only [binShift] at hr
      split at hr
      · simp at hr
      · rename_i hq
        simp at hr; subst hr
        exact ⟨_, by simp [guard_int, Go.binOp, Op.shift, hq] <;> rfl, .int _ _⟩
    · simp only [binShift] at hr
      split at hr
      · simp at hr
      · rename_i hq
        simp at hr; subst hr
        exact ⟨_, by simp [guard_int, Go.binOp, Op.shift, hq] <;> rfl, .int _ _⟩
    · split at hr
      · rename_i hs1 hs2 hkk
        subst hkk
        unfold binInt at hr
        split at hr
        · simp at hr; subst hr; exact ⟨_, by simp [guard_int, Go.binOp, Op.intArith] <;> rfl, .int _ _⟩
        · simp at hr; subst hr; exact ⟨_, by simp [guard_int, Go.binOp, Op.intArith] <;> rfl, .int _ _⟩
        · simp at hr; subst hr; exact ⟨_, by simp [guard_int, Go.binOp, Op.intArith] <;> rfl, .int _ _⟩
        · split at hr
          · simp at hr
          · rename_i hz; simp at hr; subst hr; exact ⟨_, by simp [guard_int, Go.binOp, Op.intDiv, hz] <;> rfl, .int _ _⟩
        · split at hr
          · simp at hr
          · rename_i hz; simp at hr; subst hr; exact ⟨_, by simp [guard_int, Go.binOp, Op.intDiv, hz] <;> rfl, .int _ _⟩
        · simp at hr; subst hr; exact ⟨_, by simp [guard_int, Go.binOp, Op.intBits] <;> rfl, .int _ _⟩
        · simp at hr; subst hr; exact ⟨_, by simp [guard_int, Go.binOp, Op.intBits] <;> rfl, .int _ _⟩
        · simp at hr; subst hr; exact ⟨_, by simp [guard_int, Go.binOp, Op.intBits] <;> rfl, .int _ _⟩
        · simp at hr; subst hr; exact ⟨_, by simp [guard_int, Go.binOp, Op.intBits] <;> rfl, .int _ _⟩
        · simp at hr
        · simp at hr
        · rename_i n1 n2 n3 n4 n5 n6 n7 n8 n9 n10 n11
          unfold cmpInt at hr
          split at hr <;> first
            | (simp at hr; done)
            | (simp at hr; subst hr; refine ⟨_, by simp [guard_int, Go.binOp, Op.intCmp] <;> rfl, ?_⟩; first | exact .bool _ | (simp only [beq_eq_decide, bne]; exact .bool _) | (rename_i p q _ _ _ _ _ _ _ _ _ _ _ _ _; simp [Int.not_le]; exact .bool _))
      · simp at hr
  · -- texts
    rename_i l m
    cases hA; cases hB
    unfold binStr at hr
    split at hr
    · split at hr
      · rename_i hle
        have hle := Nat.le_of_ble_eq_true hle
        simp at hr; subst hr
        refine ⟨.string ⟨⟨l ++ m⟩⟩, ?_, .str _⟩
        have hx : ¬ (((⟨⟨l⟩⟩ : ByteArray).size + (⟨⟨m⟩⟩ : ByteArray).size : Nat) : Int) > IntKind.i64.max := by
          have e1 : (⟨⟨l⟩⟩ : ByteArray).size = l.length := rfl
          have e2 : (⟨⟨m⟩⟩ : ByteArray).size = m.length := rfl
          rw [e1, e2, IntKind.max_i64]; unfold most at hle; omega
        have e3 : (⟨⟨l⟩⟩ : ByteArray) ++ ⟨⟨m⟩⟩ = ⟨⟨l ++ m⟩⟩ := by
          apply ByteArray.ext; simp
        simp only [eqGuard_at_string, Sem.run_bind, Sem.run_pure, Result.andThen_ok, Go.binOp, Op.stringOp]
        rw [if_neg hx, e3]; rfl
      · simp at hr
    all_goals first
      | (simp at hr; done)
      | (simp only [Option.some.injEq] at hr; subst hr
         refine ⟨_, by simp only [eqGuard_at_string, Sem.run_bind, Sem.run_pure, Result.andThen_ok, Go.binOp, Op.stringOp]; rfl, ?_⟩
         have e1 : (⟨⟨l⟩⟩ : ByteArray).toList = l := ByteArray.toList_eq _
         have e2 : (⟨⟨m⟩⟩ : ByteArray).toList = m := ByteArray.toList_eq _
         rw [e1, e2]
         have e3 : (l == m) = decide (l = m) := by rw [Bool.eq_iff_iff]; simp
         rw [e3]
         exact .bool _)
      | (simp only [Option.some.injEq] at hr; subst hr
         refine ⟨_, by simp only [eqGuard_at_string, Sem.run_bind, Sem.run_pure, Result.andThen_ok, Go.binOp, Op.stringOp]; rfl, ?_⟩
         have e1 : (⟨⟨l⟩⟩ : ByteArray).toList = l := ByteArray.toList_eq _
         have e2 : (⟨⟨m⟩⟩ : ByteArray).toList = m := ByteArray.toList_eq _
         rw [e1, e2]
         exact .bool _)
  · -- truths
    rename_i p q
    cases hA; cases hB
    split at hr
    · simp at hr; subst hr
      have ht : cx.P.underlying t = some .bool := okBTy_bool hty
      refine ⟨.bool (p == q), ?_, ?_⟩
      · simp only [eqGuard_at_bool, Sem.run_bind, Sem.run_pure, Result.andThen_ok, Go.binOp, Op.equal, Op.maxDepth]
        rw [run_equalIn_bool' w 9999 t p q ht]; rfl
      · have : (p == q) = decide (p = q) := by cases p <;> cases q <;> rfl
        rw [this]; exact .bool _
    · simp at hr; subst hr
      have ht : cx.P.underlying t = some .bool := okBTy_bool hty
      refine ⟨.bool (!(p == q)), ?_, ?_⟩
      · simp only [eqGuard_at_bool, Sem.run_bind, Sem.run_pure, Result.andThen_ok, Go.binOp, Op.equal, Op.maxDepth]
        rw [run_equalIn_bool' w 9999 t p q ht]; rfl
      · have : (p == q) = decide (p = q) := by cases p <;> cases q <;> rfl
        rw [this]; exact .bool _
    · simp at hr
  · -- structs
    rename_i l m
    obtain ⟨xs, rfl, hx⟩ := agg_inv hA
    obtain ⟨ys, rfl, hy⟩ := agg_inv hB
    split at hr
    · rename_i ks
      split at hr
      · rename_i hk
        simp only [Bool.and_eq_true] at hk
        have hg := okFlat_guard hty
        split at hr
        · rename_i r' he
          simp at hr; subst hr
          refine ⟨.bool r', ?_, .bool _⟩
          simp only [Sem.run_bind, run_eqGuard_agg w .eql t x y xs ys hg, Result.andThen_ok, run_eql_struct]
          rw [flat_run hty hk.1 hk.2 hx hy he 9998 w]; rfl
        · rename_i r' he
          simp at hr; subst hr
          refine ⟨.bool (!r'), ?_, .bool _⟩
          simp only [Sem.run_bind, run_eqGuard_agg w .neq t x y xs ys hg, Result.andThen_ok, run_neq_struct]
          rw [flat_run hty hk.1 hk.2 hx hy he 9998 w]; rfl
        · simp at hr
      · simp at hr
    · simp at hr
  · -- a slice against nil
    rename_i cs n tk
    obtain ⟨ad, cap, rfl, h1⟩ := pl_inv hA
    obtain ⟨ad2, cap2, rfl, h2⟩ := pl_inv hB
    have : ad2 = none := h2.1 rfl
    subst this
    have hdec : ad.isNone = decide (tk = .nil) := by
      cases ad with
      | none => simp [h1.2 rfl]
      | some z => have : ¬ tk = .nil := fun hc => by have := h1.1 hc; simp at this
                  simp [this]
    split at hr
    · simp at hr; subst hr
      have ht : ∃ e, cx.P.underlying t = some (.slice e) := okBTy_slice hty
      obtain ⟨e, ht⟩ := ht
      refine ⟨.bool (decide (tk = .nil)), ?_, .bool _⟩
      rw [← hdec]
      exact eql_slice ht x y ad n cap 0 cap2 w
    · simp at hr; subst hr
      have ht : ∃ e, cx.P.underlying t = some (.slice e) := okBTy_slice hty
      obtain ⟨e, ht⟩ := ht
      refine ⟨.bool (!decide (tk = .nil)), ?_, .bool _⟩
      rw [← hdec]
      exact neq_slice ht x y ad n cap 0 cap2 w
    · simp at hr
  · rename_i id off n esz
    obtain ⟨b, e, cap, sz, o0, rfl, _⟩ := sl_inv hA
    obtain ⟨ad2, cap2, rfl, h2⟩ := pl_inv hB
    have : ad2 = none := h2.1 rfl
    subst this
    split at hr
    · simp at hr; subst hr
      have ht : ∃ e, cx.P.underlying t = some (.slice e) := okBTy_slice hty
      obtain ⟨e, ht⟩ := ht
      exact ⟨.bool false, eql_slice ht x y _ n cap 0 cap2 w, .bool _⟩
    · simp at hr; subst hr
      have ht : ∃ e, cx.P.underlying t = some (.slice e) := okBTy_slice hty
      obtain ⟨e, ht⟩ := ht
      exact ⟨.bool true, neq_slice ht x y _ n cap 0 cap2 w, .bool _⟩
    · simp at hr
  · simp at hr

theorem sim_bin (h : SR cx nt ψ Z s a w) {ty : BTy} {op : BinOp} {x y : AOpd} (hok : okOp cx o (.bin ty op x y) = true) (hs : (AOp.bin ty op x y).sem o.dst s.T s.L s.H = some (tv, L', H')) : OpSim cx ψ Z s a w o tv L' H' := by
  obtain ⟨dst, op', type, pos, after, guard⟩ := o
  simp only [okOp] at hok
  split at hok
  · rename_i op2 t x' y' t2
    simp only [Bool.and_eq_true, decide_eq_true_eq] at hok
    obtain ⟨⟨⟨rfl, h1⟩, h2⟩, h3⟩ := hok
    simp only [AOp.sem] at hs
    split at hs
    · rename_i A B hA hB
      cases hr : binOp ty op2 A B with
      | none => rw [hr] at hs; simp [ret1] at hs
      | some r =>
        rw [hr] at hs
        simp only [ret1, Option.map_some, Option.some.injEq, Prod.mk.injEq] at hs; obtain ⟨rfl, rfl, rfl⟩ := hs
        obtain ⟨val, hrun, hv⟩ := binOp_run (cx := cx) (x := x') (y := y') h3 (h.opda h1 hA) (h.opda h2 hB) hr
        exact opSim_pure h (val := val) (by
          have : (execOp a.eval ⟨dst, .binOp op2 t x' y' t2, type, pos, after, guard⟩).run cx.P w = ((do eqGuard op2 t x' y' (a.eval x') (a.eval y'); Go.binOp op2 t (a.eval x') (a.eval y') : Sem Value).run cx.P w).andThen fun v w => .ok (.value v) w := by
            simp only [execOp, Sem.run_bind, Sem.run_pure]
          rw [this, hrun]; rfl) hv
    · simp at hs
  · simp at hok
end
end Go.Am
