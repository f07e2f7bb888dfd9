/- Maps of the abstract machine: in whatever order the entries stand. No program in sight. -/
import Derived.Test.YtjjcongjjikifaaAmA
set_option linter.unusedVariables false
set_option linter.unusedSimpArgs false
namespace Go.Am

theorem eq1_iff {k : KK} {a b : AV} (ha : kkOk k a = true) (hb : kkOk k b = true) : (eq1 a b = some true ∧ a = b) ∨ (eq1 a b = some false ∧ a ≠ b) := by
  cases k <;> cases a <;> simp [kkOk] at ha <;> cases b <;> simp [kkOk] at hb <;> simp [eq1]
  · subst ha; subst hb
    rename_i m n
    by_cases h : m = n
    · subst h; simp
    · simp [h]
  · rename_i m n
    by_cases h : m = n
    · subst h; simp
    · simp [h]
  · rename_i m n
    by_cases h : m = n
    · subst h; simp
    · simp [h]
theorem eqs_iff : ∀ {ks : List KK} {a b : List AV}, flatOk ks a = true → flatOk ks b = true → (eqs a b = some true ∧ a = b) ∨ (eqs a b = some false ∧ a ≠ b)
  | [], [], [], _, _ => .inl ⟨rfl, rfl⟩
  | [], _ :: _, _, h, _ => by simp [flatOk] at h
  | [], [], _ :: _, _, h => by simp [flatOk] at h
  | _ :: _, [], _, h, _ => by simp [flatOk] at h
  | _ :: _, _ :: _, [], _, h => by simp [flatOk] at h
  | k :: ks, a :: as, b :: bs, h1, h2 => by
    simp only [flatOk, Bool.and_eq_true] at h1 h2
    rcases eq1_iff h1.1 h2.1 with ⟨e1, rfl⟩ | ⟨e1, n1⟩ <;> rcases eqs_iff h1.2 h2.2 with ⟨e2, rfl⟩ | ⟨e2, n2⟩
    · left; simp [eqs, e1, e2]
    · right; simp [eqs, e1, e2, n2]
    · right; simp [eqs, e1, e2, n1]
    · right; simp [eqs, e1, e2, n1]
theorem keyEq_iff {kt : KT} {a b : AV} (ha : ktOk kt a = true) (hb : ktOk kt b = true) : (keyEq a b = some true ∧ a = b) ∨ (keyEq a b = some false ∧ a ≠ b) := by
  cases kt with
  | one k =>
    have h := eq1_iff (show kkOk k a = true from ha) (show kkOk k b = true from hb)
    have : keyEq a b = eq1 a b := by
      unfold keyEq
      split
      · exfalso; cases k <;> simp [ktOk, kkOk] at ha
      · rfl
    rw [this]; exact h
  | flat ks =>
    cases a <;> simp only [ktOk, Bool.false_eq_true] at ha
    cases b <;> simp only [ktOk, Bool.false_eq_true] at hb
    rcases eqs_iff ha hb with ⟨h1, h2⟩ | ⟨h1, h2⟩
    · left; exact ⟨h1, by rw [h2]⟩
    · right; exact ⟨h1, by simpa using h2⟩
theorem kkOk_of_eq1 {k : KK} {a b : AV} {r : Bool} (h : eq1 a b = some r) (hb : kkOk k b = true) : kkOk k a = true := by
  unfold eq1 at h
  split at h
  · split at h
    · rename_i hk; subst hk; cases k <;> simp [kkOk] at hb ⊢; exact hb
    · simp at h
  · cases k <;> simp [kkOk] at hb ⊢
  · cases k <;> simp [kkOk] at hb ⊢
  · simp at h
theorem flatOk_of_eqs : ∀ {ks : List KK} {a b : List AV} {r : Bool}, eqs a b = some r → flatOk ks b = true → flatOk ks a = true
  | ks, [], [], r, _, h => h
  | ks, [], _ :: _, r, h, _ => by simp [eqs] at h
  | ks, _ :: _, [], r, h, _ => by simp [eqs] at h
  | [], _ :: _, _ :: _, r, _, h => by simp [flatOk] at h
  | k :: ks, a :: as, b :: bs, r, h, hb => by
    simp only [flatOk, Bool.and_eq_true] at hb ⊢
    simp only [eqs] at h
    split at h
    · rename_i x y e1 e2; exact ⟨kkOk_of_eq1 e1 hb.1, flatOk_of_eqs e2 hb.2⟩
    · simp at h
theorem ktOk_of_keyEq {kt : KT} {a b : AV} {r : Bool} (h : keyEq a b = some r) (hb : ktOk kt b = true) : ktOk kt a = true := by
  cases kt with
  | one k =>
    unfold keyEq at h
    split at h
    · exfalso; cases k <;> simp [ktOk, kkOk] at hb
    · exact kkOk_of_eq1 h hb
  | flat ks =>
    cases b <;> simp only [ktOk, Bool.false_eq_true] at hb
    cases a <;> simp only [keyEq, eq1] at h <;> try simp at h
    exact flatOk_of_eqs h hb

/-- All keys of a kind; each once. -/
structure KDk (kt : KT) (es : List (AV × AV)) : Prop where
  ok : ∀ e ∈ es, ktOk kt e.1 = true
  nd : (es.map (·.1)).Nodup
def KD (es : List (AV × AV)) : Prop := ∃ kt, KDk kt es
theorem KD.nil : KD [] := ⟨.one .b, fun _ h => by simp at h, by simp⟩

theorem KD.shape {kt' : KT} {key : AV} {es : List (AV × AV)} {r : Option AV} (h : KD es) (hk : ktOk kt' key = true) (hf : mfind key es = some r) : ∃ kt, KDk kt es ∧ ktOk kt key = true := by
  obtain ⟨kt, hd⟩ := h
  cases es with
  | nil => exact ⟨kt', ⟨fun _ h => by simp at h, by simp⟩, hk⟩
  | cons e es =>
    obtain ⟨k1, v1⟩ := e
    refine ⟨kt, hd, ?_⟩
    unfold mfind at hf
    split at hf
    · rename_i hq; exact ktOk_of_keyEq hq (hd.ok (k1, v1) (by simp))
    · rename_i hq; exact ktOk_of_keyEq hq (hd.ok (k1, v1) (by simp))
    · simp at hf

theorem mfind_cases {kt : KT} {key : AV} (hk : ktOk kt key = true) : ∀ {es : List (AV × AV)}, KDk kt es → (∃ v, mfind key es = some (some v) ∧ (key, v) ∈ es) ∨ (mfind key es = some none ∧ ∀ e ∈ es, e.1 ≠ key)
  | [], _ => .inr ⟨rfl, fun _ h => by simp at h⟩
  | (k, v) :: es, h => by
    have ht : KDk kt es := ⟨fun e he => h.ok e (by simp [he]), by have := h.nd; simp at this; simpa using this.2⟩
    rcases keyEq_iff hk (h.ok (k, v) (by simp)) with ⟨e1, e2⟩ | ⟨e1, e2⟩
    · simp only at e1 e2; subst e2; exact .inl ⟨v, by simp [mfind, e1], by simp⟩
    · simp only at e1 e2
      rcases mfind_cases hk ht with ⟨u, q1, q2⟩ | ⟨q1, q2⟩
      · exact .inl ⟨u, by simp only [mfind, e1]; exact q1, by simp [q2]⟩
      · refine .inr ⟨by simp only [mfind, e1]; exact q1, fun e he => ?_⟩
        simp at he
        rcases he with rfl | he
        · exact fun h => e2 h.symm
        · exact q2 e he

theorem KDk.perm {kt : KT} {es es' : List (AV × AV)} (h : KDk kt es) (p : es'.Perm es) : KDk kt es' :=
  ⟨fun e he => h.ok e (p.mem_iff.1 he), (p.map (·.1)).nodup_iff.2 h.nd⟩
theorem KDk.uniq {kt : KT} {es : List (AV × AV)} (h : KDk kt es) {k u v : AV} (h1 : (k, u) ∈ es) (h2 : (k, v) ∈ es) : u = v := by
  have := h.nd
  clear h
  induction es with
  | nil => simp at h1
  | cons e es ih =>
    simp only [List.map_cons, List.nodup_cons] at this
    simp only [List.mem_cons] at h1 h2
    rcases h1 with h1 | h1 <;> rcases h2 with h2 | h2
    · rw [← h2] at h1; simpa using h1
    · exact (this.1 (by rw [← h1]; exact List.mem_map.2 ⟨_, h2, rfl⟩)).elim
    · exact (this.1 (by rw [← h2]; exact List.mem_map.2 ⟨_, h1, rfl⟩)).elim
    · exact ih h1 h2 this.2

theorem mfind_perm {kt' : KT} {key : AV} {es es' : List (AV × AV)} {r : Option AV} (h : KD es) (p : es'.Perm es) (hk : ktOk kt' key = true) (hf : mfind key es = some r) : mfind key es' = some r := by
  obtain ⟨kt, hd, hk⟩ := h.shape hk hf
  rcases mfind_cases hk hd with ⟨v, q1, q2⟩ | ⟨q1, q2⟩ <;> rcases mfind_cases hk (hd.perm p) with ⟨v', q3, q4⟩ | ⟨q3, q4⟩
  · have := hd.uniq q2 (p.mem_iff.1 q4)
    rw [q1] at hf; rw [q3, ← this]; exact hf
  · exact (q4 _ (p.mem_iff.2 q2) rfl).elim
  · exact (q2 _ (p.mem_iff.1 q4) rfl).elim
  · rw [q1] at hf; rw [q3]; exact hf

theorem mput_split {kt : KT} {key : AV} (hk : ktOk kt key = true) (u : AV) : ∀ {es : List (AV × AV)} {v : AV}, KDk kt es → (key, v) ∈ es → ∃ rest, es.Perm ((key, v) :: rest) ∧ (mput key u es).Perm ((key, u) :: rest)
  | [], v, _, h => by simp at h
  | (k, x) :: es, v, h, hm => by
    have ht : KDk kt es := ⟨fun e he => h.ok e (by simp [he]), by have := h.nd; simp at this; simpa using this.2⟩
    rcases keyEq_iff hk (h.ok (k, x) (by simp)) with ⟨e1, e2⟩ | ⟨e1, e2⟩
    · simp only at e1 e2; subst e2
      have : v = x := h.uniq hm (by simp)
      subst this
      exact ⟨es, .refl _, by simp [mput, e1]⟩
    · simp only at e1 e2
      simp only [List.mem_cons, Prod.mk.injEq] at hm
      have hm : (key, v) ∈ es := hm.resolve_left (fun h => e2 h.1)
      obtain ⟨rest, p1, p2⟩ := mput_split hk u ht hm
      refine ⟨(k, x) :: rest, (p1.cons _).trans (.swap _ _ _), ?_⟩
      have : mput key u ((k, x) :: es) = (k, x) :: mput key u es := by simp [mput, e1]
      rw [this]
      exact (p2.cons _).trans (.swap _ _ _)
theorem mput_new {kt : KT} {key : AV} (hk : ktOk kt key = true) (u : AV) : ∀ {es : List (AV × AV)}, KDk kt es → (∀ e ∈ es, e.1 ≠ key) → mput key u es = es ++ [(key, u)]
  | [], _, _ => rfl
  | (k, x) :: es, h, hm => by
    have ht : KDk kt es := ⟨fun e he => h.ok e (by simp [he]), by have := h.nd; simp at this; simpa using this.2⟩
    rcases keyEq_iff hk (h.ok (k, x) (by simp)) with ⟨e1, e2⟩ | ⟨e1, e2⟩
    · exact (hm (k, x) (by simp) e2.symm).elim
    · simp only at e1
      simp [mput, e1, mput_new hk u ht (fun e he => hm e (by simp [he]))]

theorem mput_perm {kt' : KT} {key : AV} {es es' : List (AV × AV)} {r : Option AV} (h : KD es) (p : es'.Perm es) (hk : ktOk kt' key = true) (hf : mfind key es = some r) (u : AV) : (mput key u es').Perm (mput key u es) ∧ KD (mput key u es) := by
  obtain ⟨kt, hd, hk⟩ := h.shape hk hf
  have hd' := hd.perm p
  rcases mfind_cases hk hd with ⟨v, q1, q2⟩ | ⟨q1, q2⟩
  · obtain ⟨rest, p1, p2⟩ := mput_split hk u hd q2
    obtain ⟨rest', p3, p4⟩ := mput_split hk u hd' (p.mem_iff.2 q2)
    have : rest'.Perm rest := ((p3.symm.trans p).trans p1).cons_inv
    refine ⟨p4.trans ((this.cons _).trans p2.symm), kt, ?_⟩
    have hr : KDk kt ((key, v) :: rest) := hd.perm p1.symm
    have hu : KDk kt ((key, u) :: rest) := ⟨fun e he => by
      simp only [List.mem_cons] at he
      rcases he with rfl | he
      · exact hk
      · exact hr.ok e (by simp [he]), by simpa using hr.nd⟩
    exact hu.perm p2
  · rw [mput_new hk u hd q2, mput_new hk u hd' (fun e he => q2 e (p.mem_iff.1 he))]
    refine ⟨p.append_right _, kt, ⟨fun e he => ?_, ?_⟩⟩
    · simp only [List.mem_append, List.mem_singleton] at he
      rcases he with he | rfl
      · exact hd.ok e he
      · exact hk
    · rw [List.map_append, List.nodup_append]
      refine ⟨hd.nd, by simp, fun a ha b hb => ?_⟩
      simp at hb; subst hb
      obtain ⟨e, he, rfl⟩ := List.mem_map.1 ha
      exact q2 e he

theorem mput_has {kt' : KT} {key : AV} {es : List (AV × AV)} {r : Option AV} (h : KD es) (hk : ktOk kt' key = true) (hf : mfind key es = some r) (u : AV) : (key, u) ∈ mput key u es := by
  obtain ⟨kt, hd, hk⟩ := h.shape hk hf
  rcases mfind_cases hk hd with ⟨v, q1, q2⟩ | ⟨q1, q2⟩
  · obtain ⟨rest, p1, p2⟩ := mput_split hk u hd q2
    exact p2.mem_iff.2 (by simp)
  · rw [mput_new hk u hd q2]; simp

theorem KD.perm {es es' : List (AV × AV)} (h : KD es) (p : es'.Perm es) : KD es' := by
  obtain ⟨kt, hd⟩ := h; exact ⟨kt, hd.perm p⟩
theorem mins_perm (k x : AV) : ∀ es : List (AV × AV), (mins k x es).Perm (es ++ [(k, x)])
  | [] => .refl _
  | (k', v) :: r => by
    unfold mins
    split
    · have h1 : ((k, x) :: (k', v) :: r).Perm ((k', v) :: (k, x) :: r) := .swap _ _ _
      have h2 : ((k, x) :: r).Perm (r ++ [(k, x)]) := (List.perm_append_comm (l₁ := [(k, x)]) (l₂ := r))
      exact h1.trans (h2.cons _)
    · exact (mins_perm k x r).cons _
theorem mins_all (p : AV × AV → Bool) (k x : AV) : ∀ es : List (AV × AV), (mins k x es).all p = (p (k, x) && es.all p)
  | [] => by simp [mins]
  | (k', v) :: r => by
    unfold mins
    split
    · simp
    · simp only [List.all_cons, mins_all p k x r]
      cases p (k', v) <;> cases p (k, x) <;> rfl
theorem mins_find (q k x : AV) : ∀ es : List (AV × AV), mfind q (mins k x es) = some none ↔ keyEq q k = some false ∧ mfind q es = some none
  | [] => by
    simp only [mins, mfind]
    split <;> simp_all
  | (k', v) :: r => by
    unfold mins
    split
    · simp only [mfind]
      split
      · simp_all
      · rename_i h; simp [h]
      · simp_all
    · simp only [mfind]
      split
      · rename_i h; simp
      · exact mins_find q k x r
      · simp
theorem lexLt_asymm : ∀ (a b : List Int), lexLt a b = true → lexLt b a = false
  | _, [], h => by simp [lexLt] at h
  | [], _ :: _, _ => rfl
  | a :: r, b :: s, h => by
    simp only [lexLt] at h ⊢
    split at h
    · rw [if_neg (by omega), if_pos (by omega)]
    · split at h
      · simp at h
      · rw [if_neg (by omega), if_neg (by omega)]; exact lexLt_asymm r s h
theorem lexLt_total : ∀ (a b : List Int), a ≠ b → lexLt a b = true ∨ lexLt b a = true
  | [], [], h => absurd rfl h
  | [], _ :: _, _ => .inl rfl
  | _ :: _, [], _ => .inr rfl
  | a :: r, b :: s, h => by
    simp only [lexLt]
    by_cases h1 : a < b
    · left; rw [if_pos h1]
    · by_cases h2 : b < a
      · right; rw [if_pos h2]
      · have : a = b := by omega
        subst this
        simp only [h1, if_false]
        exact lexLt_total r s (fun e => h (by rw [e]))
theorem lexLt_trans : ∀ (a b c : List Int), lexLt a b = true → lexLt b c = true → lexLt a c = true
  | _, [], _, h, _ => by simp [lexLt] at h
  | _, _ :: _, [], _, h => by simp [lexLt] at h
  | [], _ :: _, _ :: _, _, _ => rfl
  | a :: r, b :: s, c :: t, h1, h2 => by
    simp only [lexLt] at h1 h2 ⊢
    split at h1
    · split at h2
      · rw [if_pos (by omega)]
      · split at h2
        · simp at h2
        · rw [if_pos (by omega)]
    · split at h1
      · simp at h1
      · split at h2
        · rw [if_pos (by omega)]
        · split at h2
          · simp at h2
          · rw [if_neg (by omega), if_neg (by omega)]; exact lexLt_trans r s t h1 h2
theorem mins_comm' (k1 x1 k2 x2 : AV) (h : lexLt (enc k1) (enc k2) = true) : ∀ es : List (AV × AV), mins k1 x1 (mins k2 x2 es) = mins k2 x2 (mins k1 x1 es)
  | [] => by simp [mins, h, lexLt_asymm _ _ h]
  | (k', v) :: r => by
    have ha := lexLt_asymm _ _ h
    by_cases e2 : lexLt (enc k2) (enc k') = true
    · have e1 := lexLt_trans _ _ _ h e2
      simp [mins, h, ha, e1, e2]
    · by_cases e1 : lexLt (enc k1) (enc k') = true
      · simp [mins, ha, e1, e2]
      · simp [mins, e1, e2, mins_comm' k1 x1 k2 x2 h r]
theorem mins_comm (k1 x1 k2 x2 : AV) (h : enc k1 ≠ enc k2) (es : List (AV × AV)) : mins k1 x1 (mins k2 x2 es) = mins k2 x2 (mins k1 x1 es) := by
  rcases lexLt_total _ _ h with h | h
  · exact mins_comm' k1 x1 k2 x2 h es
  · exact (mins_comm' k2 x2 k1 x1 h es).symm
theorem eq1_symm (a b : AV) : eq1 a b = eq1 b a := by
  unfold eq1
  cases a <;> cases b <;> simp only []
  · congr 1; rw [Bool.eq_iff_iff]; simp; exact eq_comm
  · rename_i j a k b
    by_cases h : j = k
    · subst h; simp only [if_true]; congr 1; rw [Bool.eq_iff_iff]; simp; exact eq_comm
    · rw [if_neg h, if_neg (fun e => h e.symm)]
  · congr 1; rw [Bool.eq_iff_iff]; simp; exact eq_comm
theorem eqs_symm : ∀ a b : List AV, eqs a b = eqs b a
  | [], [] => rfl
  | [], _ :: _ => rfl
  | _ :: _, [] => rfl
  | a :: r, b :: s => by simp only [eqs]; rw [eq1_symm a b, eqs_symm r s]
theorem keyEq_symm (a b : AV) : keyEq a b = keyEq b a := by
  cases a <;> cases b <;> simp only [keyEq] <;> first | exact eq1_symm _ _ | exact eqs_symm _ _

theorem oset_comm : ∀ {l : List (Nat × AObj)} {i j : Nat} {x y a b : AObj}, oget l i = some x → oget l j = some y → i ≠ j → oset (oset l i a) j b = oset (oset l j b) i a
  | [], _, _, _, _, _, _, h, _, _ => by simp [oget] at h
  | (m, o) :: l, i, j, x, y, a, b, h1, h2, hne => by
    simp only [oget] at h1 h2
    by_cases e1 : Nat.beq m i = true
    · have e1' := Nat.eq_of_beq_eq_true e1
      subst e1'
      have e2 : Nat.beq m j = false := by
        cases hb : Nat.beq m j with
        | false => rfl
        | true => exact absurd (Nat.eq_of_beq_eq_true hb) hne
      simp [oset, e2]
    · by_cases e2 : Nat.beq m j = true
      · have e2' := Nat.eq_of_beq_eq_true e2
        subst e2'
        have : ¬ m = i := fun e => hne e.symm
        simp [oset, this]
      · simp only [e1, e2, if_false, Bool.false_eq_true] at h1 h2
        simp only [oset, e1, e2, if_false, Bool.false_eq_true]
        rw [oset_comm h1 h2 hne]
theorem oset_oset : ∀ (l : List (Nat × AObj)) (i : Nat) (a b : AObj), oset (oset l i a) i b = oset l i b
  | [], i, a, b => by simp [oset]
  | (m, o) :: l, i, a, b => by
    by_cases e : Nat.beq m i = true
    · simp only [oset, e, if_true]
    · simp only [oset, e, if_false, Bool.false_eq_true]; rw [oset_oset l i a b]
theorem oget_oset' : ∀ (l : List (Nat × AObj)) (i j : Nat) (x : AObj), oget (oset l i x) j = if j = i then some x else oget l j
  | [], i, j, x => by
    by_cases h : j = i
    · subst h; simp [oset, oget]
    · have : ¬ i = j := fun e => h e.symm
      simp [oset, oget, h, this]
  | (m, o) :: l, i, j, x => by
    by_cases e : Nat.beq m i = true
    · have e' := Nat.eq_of_beq_eq_true e
      subst e'
      simp only [oset, e, if_true, oget]
      by_cases h : j = m
      · subst h; simp
      · have : ¬ m = j := fun e => h e.symm
        simp [h, this]
    · simp only [oset, e, if_false, Bool.false_eq_true, oget]
      rw [oget_oset' l i j x]
      have e' : ¬ m = i := by simpa using e
      by_cases h : m = j
      · subst h; simp [e']
      · simp [h]

theorem insF_comm {kt1 kt2 : KT} {H H1 H2 : Heap} {i1 i2 : Nat} {k1 k2 x1 x2 : AV} (h1 : insF kt1 H i1 k1 x1 = some H1) (h2 : insF kt2 H1 i2 k2 x2 = some H2) :
    ∃ H1', insF kt2 H i2 k2 x2 = some H1' ∧ insF kt1 H1' i1 k1 x1 = some H2 := by
  unfold insF at h1 h2
  split at h1
  rotate_left
  · simp at h1
  rename_i es1 g1
  split at h1
  rotate_left
  · simp at h1
  rename_i o1 f1
  split at h1
  rotate_left
  · simp at h1
  rename_i a1
  simp only [Option.some.injEq] at h1
  subst h1
  have getp : ∀ (H : Heap) (i j : Nat) (o : AObj), (H.put i o).get j = if j = i then some o else H.get j := fun H i j o => oget_oset' H.objs i j o
  rw [getp] at h2
  by_cases hid : i2 = i1
  · subst hid
    simp only [if_true] at h2
    split at h2
    rotate_left
    · simp at h2
    rename_i o2 f2
    split at h2
    rotate_left
    · simp at h2
    rename_i a2
    simp only [Option.some.injEq] at h2
    subst h2
    obtain ⟨q1, q2⟩ := (mins_find k2 k1 x1 es1).1 f2
    rw [mins_all] at a2
    simp only [Bool.and_eq_true, Bool.not_eq_true', decide_eq_false_iff_not] at a2
    refine ⟨H.put i2 (.map (mins k2 x2 es1)), ?_, ?_⟩
    · unfold insF
      rw [g1]
      simp only [o2, q2]
      rw [if_pos a2.2]
    · unfold insF
      rw [getp]
      simp only [if_true, o1]
      have : mfind k1 (mins k2 x2 es1) = some none := (mins_find k1 k2 x2 es1).2 ⟨by rw [keyEq_symm]; exact q1, f1⟩
      simp only [this]
      rw [mins_all, if_pos]
      · rw [mins_comm k1 x1 k2 x2 (fun e => a2.1 e.symm)]
        simp [Heap.put, oset_oset]
      · simp only [Bool.and_eq_true, Bool.not_eq_true', decide_eq_false_iff_not]
        exact ⟨fun e => a2.1 e.symm, a1⟩
  · simp only [hid, if_false] at h2
    split at h2
    rotate_left
    · simp at h2
    rename_i es2 g2
    split at h2
    rotate_left
    · simp at h2
    rename_i o2 f2
    split at h2
    rotate_left
    · simp at h2
    rename_i a2
    simp only [Option.some.injEq] at h2
    subst h2
    refine ⟨H.put i2 (.map (mins k2 x2 es2)), ?_, ?_⟩
    · unfold insF
      rw [g2]
      simp only [o2, f2]
      rw [if_pos a2]
    · unfold insF
      rw [getp, if_neg (fun e => hid e.symm), g1]
      simp only [o1, f1]
      rw [if_pos a1]
      simp only [Heap.put]
      rw [oset_comm g1 g2 (fun e => hid e.symm)]

/-- The entry that stands at a place. -/
theorem mput_at {kt : KT} {key : AV} (hk : ktOk kt key = true) (u : AV) : ∀ {es : List (AV × AV)} {i : Nat} {y : AV}, KDk kt es → es[i]? = some (key, y) → mput key u es = es.set i (key, u)
  | [], i, y, _, h => by simp at h
  | (k, x) :: es, 0, y, h, hi => by
    simp at hi; obtain ⟨rfl, rfl⟩ := hi
    rcases keyEq_iff hk hk with ⟨e1, _⟩ | ⟨_, e2⟩
    · simp [mput, e1]
    · exact absurd rfl e2
  | (k, x) :: es, i + 1, y, h, hi => by
    have ht : KDk kt es := ⟨fun e he => h.ok e (by simp [he]), by have := h.nd; simp at this; simpa using this.2⟩
    have hi : es[i]? = some (key, y) := by simpa using hi
    have hne : k ≠ key := by
      rintro rfl
      have := h.nd
      simp only [List.map_cons, List.nodup_cons] at this
      exact this.1 (List.mem_map.2 ⟨_, List.mem_of_getElem? hi, rfl⟩)
    rcases keyEq_iff hk (h.ok (k, x) (by simp)) with ⟨_, e2⟩ | ⟨e1, _⟩
    · exact (hne e2.symm).elim
    · simp only at e1
      simp [mput, e1, mput_at hk u ht hi]
end Go.Am
