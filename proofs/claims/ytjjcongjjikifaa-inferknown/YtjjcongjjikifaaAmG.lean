/- Regions: operations in any order that the model may draw come to what they come to in the text's order. -/
import Derived.Test.YtjjcongjjikifaaAmF
set_option linter.unusedVariables false
set_option linter.unusedSimpArgs false
namespace Go.Am

/-! ### which two may change places -/
def disj : Option Nat → List Nat → Bool
  | none, _ => true
  | some d, ks => !(ks.any (Nat.beq d))
def dne : Option Nat → Option Nat → Bool
  | some a, some b => !(Nat.beq a b)
  | _, _ => true
def hid (o s : AOper) : Bool :=
  match s.op, s.hide with
  | .store _ _ _, [k] => o.hide.any (Nat.beq k)
  | _, _ => false
def zSame : AV → AV → Bool
  | .int k a, .int j b => decide (k = j) && decide (a = b)
  | .str a, .str b => decide (a = b)
  | .bool a, .bool b => decide (a = b)
  | .nilp, .nilp => true
  | .pl [] 0 .nil, .pl [] 0 .nil => true
  | _, _ => false
theorem zSame_eq {a b : AV} (h : zSame a b = true) : a = b := by
  unfold zSame at h
  split at h <;> simp_all
def lookMent (j i : AOper) : Bool :=
  match j.op, i.op with
  | .lookup kt z false _ _, .ment kt' z' _ _ => decide (kt = kt') && zSame z z'
  | _, _ => false
/-- A load of what is surely not put behind something, beside what puts scalars behind one another. -/
def loadApp (j i : AOper) : Bool :=
  match j.op, i.op with
  | .loadS _ _ _, .appS _ _ _ _ _ => true
  | _, _ => false
def insIns (j i : AOper) : Bool :=
  match j.op, i.op with
  | .ins _ _ _ _, .ins _ _ _ _ => true
  | _, _ => false
def indCl (j i : AOper) : Bool :=
  match j.op.cl, i.op.cl with
  | .silent, _ => true
  | _, .silent => true
  | .read, .read => true
  | .read, .box => i.dst.isSome
  | .box, .box => j.dst.isSome && i.dst.isSome
  | .eff, .box => i.dst.isSome
  | .box, .eff => j.dst.isSome
  | .read, .eff => j.nh || lookMent j i || loadApp j i
  | .eff, .read => i.nh || loadApp i j
  | .eff, .eff => insIns j i
  | .read, .store => hid j i
  | .store, .read => hid i j
  | _, _ => false
/-- j, which stands ahead of i, may come behind it. -/
def ind (j i : AOper) : Bool := disj j.dst i.tmps && disj i.dst j.tmps && dne j.dst i.dst && indCl j i

theorem disj_spec {d : Option Nat} {ks : List Nat} (h : disj d ks = true) {T : List TV} {v : TV} : Ag (putT T d v) T ks := by
  intro k hk
  cases d with
  | none => rfl
  | some d =>
    simp only [disj, Bool.not_eq_true'] at h
    simp only [putT, lget_lset]
    have : k ≠ d := by
      rintro rfl
      have : ks.any (Nat.beq k) = true := by rw [List.any_eq_true]; exact ⟨k, hk, by simp⟩
      rw [h] at this; simp at this
    rw [if_neg this]
theorem putT_comm {a b : Option Nat} (h : dne a b = true) (T : List TV) (u v : TV) : putT (putT T a u) b v = putT (putT T b v) a u := by
  cases a with
  | none => rfl
  | some a => cases b with
    | none => rfl
    | some b =>
      simp only [dne, Bool.not_eq_true'] at h
      exact lset_comm T a b u v (by rintro rfl; simp at h)

/-! ### maps -/
theorem kkOk_eq1 {k : KK} {a b : AV} (ha : kkOk k a = true) (hb : kkOk k b = true) : ∃ r, eq1 a b = some r := by
  cases k <;> cases a <;> simp [kkOk] at ha <;> cases b <;> simp [kkOk] at hb <;> simp [eq1]
  subst ha; subst hb; rfl
theorem flatOk_eqs : ∀ {ks : List KK} {a b : List AV}, flatOk ks a = true → flatOk ks b = true → ∃ r, eqs a b = some r
  | [], [], [], _, _ => ⟨true, rfl⟩
  | [], _ :: _, _, h, _ => by simp [flatOk] at h
  | [], [], _ :: _, _, h => by simp [flatOk] at h
  | _ :: _, [], _, h, _ => by simp [flatOk] at h
  | _ :: _, _ :: _, [], _, h => by simp [flatOk] at h
  | k :: ks, a :: as, b :: bs, h1, h2 => by
    simp only [flatOk, Bool.and_eq_true] at h1 h2
    obtain ⟨r1, e1⟩ := kkOk_eq1 h1.1 h2.1
    obtain ⟨r2, e2⟩ := flatOk_eqs h1.2 h2.2
    exact ⟨r1 && r2, by simp [eqs, e1, e2]⟩
theorem ktOk_keyEq {kt : KT} {a b : AV} (ha : ktOk kt a = true) (hb : ktOk kt b = true) : ∃ r, keyEq a b = some r := by
  cases kt with
  | one k =>
    obtain ⟨r, hr⟩ := kkOk_eq1 (show kkOk k a = true from ha) (show kkOk k b = true from hb)
    refine ⟨r, ?_⟩
    unfold keyEq
    split
    · simp [eq1] at hr
    · exact hr
  | flat ks =>
    cases a <;> simp only [ktOk, Bool.false_eq_true] at ha
    cases b <;> simp only [ktOk, Bool.false_eq_true] at hb
    exact flatOk_eqs ha hb
theorem mput_same {k : AV} : ∀ {es : List (AV × AV)} {v : AV}, mfind k es = some (some v) → mput k v es = es
  | [], _, h => by simp [mfind] at h
  | (k', v') :: es, v, h => by
    rcases mfind_cons h with ⟨h1, h2⟩ | ⟨h1, h2⟩
    · cases h2; simp [mput, h1]
    · simp [mput, h1, mput_same h2]
theorem mfind_snoc {kt : KT} {k k2 z : AV} (h1 : ktOk kt k = true) (h2 : ktOk kt k2 = true) : ∀ {es : List (AV × AV)} {r : Option AV}, mfind k es = some r → ∃ r', mfind k (es ++ [(k2, z)]) = some r' ∧ r'.getD z = r.getD z
  | [], r, h => by
    simp [mfind] at h; subst h
    obtain ⟨b, hb⟩ := ktOk_keyEq h1 h2
    cases b
    · exact ⟨none, by simp [mfind, hb], rfl⟩
    · exact ⟨some z, by simp [mfind, hb], rfl⟩
  | (k', v') :: es, r, h => by
    rcases mfind_cons h with ⟨e1, e2⟩ | ⟨e1, e2⟩
    · subst e2; exact ⟨some v', by simp [mfind, e1], rfl⟩
    · obtain ⟨r', q1, q2⟩ := mfind_snoc h1 h2 e2
      exact ⟨r', by simp only [List.cons_append, mfind, e1]; exact q1, q2⟩

theorem put_get (H : Heap) (i : Nat) (o : AObj) (j : Nat) : (H.put i o).get j = if j = i then some o else H.get j := by
  simp only [Heap.get, Heap.put, oget_oset]

section
variable {call : Caller} {j i : AOper} {T : List TV} {L L1 L2 : Boxes} {H H1 H2 : Heap} {om om1 om2 : List Nat} {vj vi : TV}

theorem look_ment (hl : lookMent j i = true) (hj : opF call j T L H om = some (vj, L1, H1, om1)) (hi : opF call i T L1 H1 om1 = some (vi, L2, H2, om2)) :
    ∃ L' H' om', opF call i T L H om = some (vi, L', H', om') ∧ opF call j T L' H' om' = some (vj, L2, H2, om2) := by
  unfold lookMent at hl
  split at hl
  · rename_i kt z m k kt' z' m' k' e1 e2
    simp only [Bool.and_eq_true, decide_eq_true_eq] at hl
    obtain ⟨rfl, hz⟩ := hl
    have hz := zSame_eq hz
    subst hz
    have hcj : ∀ f xs, j.op ≠ .call f xs := fun f xs e => by rw [e1] at e; cases e
    have hci : ∀ f xs, i.op ≠ .call f xs := fun f xs e => by rw [e2] at e; cases e
    have hci' : ∀ n a x, i.op ≠ .store n a x := fun f xs x e => by rw [e2] at e; cases e
    rw [opF_plain T hcj] at hj
    by_cases hwj : wantedA T j.guard = true
    · rw [if_pos hwj] at hj
      cases hs : semX j T L H with
      | none => rw [hs] at hj; simp at hj
      | some q =>
        obtain ⟨qv, qL, qH⟩ := q
        have hs' := hs
        rw [hs] at hj
        simp at hj
        obtain ⟨q1, q2, q3, q4⟩ := hj
        subst q1; subst q2; subst q3; subst q4
        have hLH : qL = L ∧ qH = H := by
          unfold semX at hs'
          rw [if_pos (by rw [e1]; rfl)] at hs'
          split at hs'
          · simp at hs'; exact ⟨hs'.2.1.symm, hs'.2.2.symm⟩
          · simp at hs'
        obtain ⟨q1, q2⟩ := hLH
        subst q1; subst q2
        refine ⟨L2, H2, om2, hi, ?_⟩
        rw [opF_plain T hci] at hi
        by_cases hwi : wantedA T i.guard = true
        · rw [if_pos hwi, semX_notread T (by rw [e2]; rfl) hci', e2] at hi
          simp only [AOp.sem] at hi
          split at hi
          rotate_left
          · simp at hi
          rename_i id key q1 q2
          split at hi
          rotate_left
          · simp at hi
          rename_i es q3
          -- what the map becomes
          have key2 : ∃ v, ktOk kt key = true ∧ (mfind key es = some (some v) ∨ (mfind key es = some none ∧ v = z)) ∧ L2 = qL ∧ H2 = qH.put id (.map (mput key v es)) ∧ om2 = om := by
            split at hi
            · rename_i v q4 q5; simp at hi; exact ⟨v, q4, .inl q5, hi.2.1.symm, hi.2.2.1.symm, hi.2.2.2.symm⟩
            · rename_i q4 q5; simp at hi; exact ⟨z, q4, .inr ⟨q5, rfl⟩, hi.2.1.symm, hi.2.2.1.symm, hi.2.2.2.symm⟩
            · simp at hi
          obtain ⟨v, q4, q5, rfl, rfl, rfl⟩ := key2
          rw [opF_plain T hcj, if_pos hwj]
          unfold semX at hs ⊢
          rw [if_pos (by rw [e1]; rfl)] at hs ⊢
          by_cases hn : j.nh = true
          · rw [if_pos hn] at hs ⊢
            split at hs
            · simp at hs; simp [hs]
            · simp at hs
          · rw [if_neg hn] at hs ⊢
            rw [e1] at hs ⊢
            simp only [AOp.sem] at hs ⊢
            split at hs
            · rename_i v' L' H' hq
              simp at hs
              subst hs
              split at hq
              · rename_i id' key' q6 q7
                rw [put_get]
                by_cases hid : id' = id
                · subst hid
                  rw [q3] at hq
                  simp only [if_true]
                  simp only at hq
                  split at hq
                  · rename_i r q8 q9
                    simp at hq
                    have : ∃ r', mfind key' (mput key v es) = some r' ∧ r'.getD z = r.getD z := by
                      rcases q5 with q5 | ⟨q5, rfl⟩
                      · rw [mput_same q5]; exact ⟨r, q9, rfl⟩
                      · rw [mput_none q5]; exact mfind_snoc q8 q4 q9
                    obtain ⟨r', p1, p2⟩ := this
                    simp only [p1, q8, Bool.false_eq_true, if_false]
                    rw [p2]; simp [hq.1]
                  · simp at hq
                · rw [if_neg hid]
                  split at hq
                  · rename_i es' q8
                    split at hq
                    · rename_i r q9 q10
                      simp at hq
                      simp [q9, q10, hq.1]
                    · simp at hq
                  · simp at hq
              · simp at hq
            · simp at hs
        · rw [if_neg hwi] at hi
          simp at hi
          obtain ⟨_, rfl, rfl, rfl⟩ := hi
          rw [opF_plain T hcj, if_pos hwj, hs]; rfl
    · rw [if_neg hwj] at hj
      simp at hj
      obtain ⟨rfl, rfl, rfl, rfl⟩ := hj
      refine ⟨L2, H2, om2, hi, ?_⟩
      rw [opF_plain T hcj, if_neg hwj]
  · simp at hl

theorem ins_spec {o : AOper} {kt : KT} {m k x : AOpd} (h : o.op = .ins kt m k x) : ∃ r : Option (Option (Nat × AV × AV)), ∀ L H om, opF call o T L H om = match r with
    | none => none
    | some none => some (.undef, L, H, om)
    | some (some (id, key, v)) => (insF kt H id key v).map fun H' => (.undef, L, H', om) := by
  have hc : ∀ f xs, o.op ≠ .call f xs := fun f xs e => by rw [h] at e; cases e
  have hc' : ∀ n a x, o.op ≠ .store n a x := fun f xs x e => by rw [h] at e; cases e
  refine ⟨if wantedA T o.guard then (match eva T m, eva T k, eva T x with | some (.map id), some key, some v => some (some (id, key, v)) | _, _, _ => none) else some none, fun L H om => ?_⟩
  rw [opF_plain T hc]
  by_cases hw : wantedA T o.guard = true
  · simp only [hw, if_true]
    rw [semX_notread T (by rw [h]; rfl) hc', h]
    simp only [AOp.sem]
    generalize eva T m = em
    generalize eva T k = ek
    generalize eva T x = ex
    cases em with
    | none => rfl
    | some a => cases ek with
      | none => cases a <;> rfl
      | some b => cases ex with
        | none => cases a <;> rfl
        | some c =>
          cases a <;> try rfl
          rename_i id
          simp only []
          cases insF kt H id b c <;> rfl
  · simp only [hw]; rfl
theorem ins_ins (hl : insIns j i = true) (hj : opF call j T L H om = some (vj, L1, H1, om1)) (hi : opF call i T L1 H1 om1 = some (vi, L2, H2, om2)) :
    ∃ L' H' om', opF call i T L H om = some (vi, L', H', om') ∧ opF call j T L' H' om' = some (vj, L2, H2, om2) := by
  unfold insIns at hl
  split at hl
  · rename_i kt m k x kt' m' k' x' e1 e2
    obtain ⟨r, hr⟩ := ins_spec (call := call) (T := T) e1
    obtain ⟨r', hr'⟩ := ins_spec (call := call) (T := T) e2
    rw [hr] at hj
    rw [hr'] at hi
    cases r with
    | none => simp at hj
    | some r => cases r with
      | none =>
        simp at hj; obtain ⟨rfl, rfl, rfl, rfl⟩ := hj
        exact ⟨L2, H2, om2, by rw [hr']; exact hi, by rw [hr]⟩
      | some q =>
        obtain ⟨id, key, v⟩ := q
        cases r' with
        | none => simp at hi
        | some r' => cases r' with
          | none =>
            simp at hi; obtain ⟨rfl, rfl, rfl, rfl⟩ := hi
            exact ⟨L, H, om, by rw [hr'], by rw [hr]; exact hj⟩
          | some q' =>
            obtain ⟨id', key', v'⟩ := q'
            simp only [Option.map_eq_some_iff] at hj hi
            obtain ⟨Ha, g1, g2⟩ := hj
            simp at g2; obtain ⟨rfl, rfl, rfl, rfl⟩ := g2
            obtain ⟨Hb, g3, g4⟩ := hi
            simp at g4; obtain ⟨rfl, rfl, rfl, rfl⟩ := g4
            obtain ⟨Hc, g5, g6⟩ := insF_comm g1 g3
            exact ⟨L, Hc, om, by rw [hr']; simp [g5], by rw [hr]; simp [g6]⟩
  · simp at hl

theorem hid_spec {o s : AOper} (h : hid o s = true) : ∃ n a x k, s.op = .store n a x ∧ s.hide = [k] ∧ k ∈ o.hide := by
  unfold hid at h
  split at h
  · rename_i n a x k e1 e2
    rw [List.any_eq_true] at h
    obtain ⟨y, hy, hb⟩ := h
    have := Nat.eq_of_beq_eq_true hb
    subst this
    exact ⟨n, a, x, k, e1, e2, hy⟩
  · simp at h

def SafeSub (H H' : Heap) : Prop := ∀ id c, H.get id = some (.cells c) → c.all AV.scalar = false → Nat.blt id H.next = true → H'.get id = some (.cells c) ∧ Nat.blt id H'.next = true
theorem safe_read {d : Option Nat} {agg : Bool} {n : Nat} {x : AOpd} {L L' : Boxes} {H H1 H' : Heap} {v : TV} (hs : SafeSub H H') (h : (AOp.loadS agg n x).sem d T L H = some (v, L', H1)) : (AOp.loadS agg n x).sem d T L H' = some (v, L, H') := by
  simp only [AOp.sem] at h ⊢
  split at h
  · rename_i id off e
    split at h
    · rename_i c hg
      split at h
      · rename_i hb
        simp only [Bool.and_eq_true, Bool.not_eq_true'] at hb
        obtain ⟨h1, h2⟩ := hs id c hg hb.2.2 hb.2.1
        rw [h1]
        dsimp only
        rw [if_pos (by simp only [Bool.and_eq_true, Bool.not_eq_true']; exact ⟨hb.1, h2, hb.2.2⟩)]
        simp only [ret1] at h ⊢
        cases hv : asV agg n (c.drop off) with
        | none => rw [hv] at h; simp at h
        | some u => rw [hv] at h; simp at h; simp [h.1]
      · simp at h
    · simp at h
  · simp at h
theorem loadS_spec {o : AOper} {agg : Bool} {n : Nat} {x : AOpd} (ho : o.op = .loadS agg n x) (hj : opF call o T L H om = some (vj, L1, H1, om1)) :
    L1 = L ∧ H1 = H ∧ om1 = om ∧ ∀ L' H' om', SafeSub H H' → opF call o T L' H' om' = some (vj, L', H', om') := by
  have hc : ∀ f xs, o.op ≠ .call f xs := fun f xs e => by rw [ho] at e; cases e
  have hr : o.op.reads = true := by rw [ho]; rfl
  rw [opF_plain T hc] at hj
  by_cases hw : wantedA T o.guard = true
  · rw [if_pos hw] at hj
    unfold semX at hj
    rw [if_pos hr] at hj
    cases hq : o.op.sem o.dst T (hideB L o.hide) (if o.nh = true then Heap.empty else H) with
    | none => rw [hq] at hj; simp at hj
    | some q =>
      obtain ⟨u, L2, H2⟩ := q
      rw [hq] at hj
      simp at hj
      obtain ⟨rfl, rfl, rfl, rfl⟩ := hj
      refine ⟨rfl, rfl, rfl, fun L' H' om' hs => ?_⟩
      rw [opF_plain T hc, if_pos hw]
      unfold semX
      rw [if_pos hr]
      by_cases hn : o.nh = true
      · rw [if_pos hn] at hq
        rw [ho] at hq
        simp only [AOp.sem, Heap.get, Heap.empty, oget] at hq
        split at hq <;> simp at hq
      · rw [if_neg hn] at hq ⊢
        rw [ho] at hq ⊢
        have := safe_read (L := hideB L o.hide) hs hq
        have e2 : (AOp.loadS agg n x).sem o.dst T (hideB L' o.hide) H' = some (u, hideB L' o.hide, H') := by
          have e3 : (AOp.loadS agg n x).sem o.dst T (hideB L' o.hide) H' = ((AOp.loadS agg n x).sem o.dst T (hideB L o.hide) H').map fun q => (q.1, hideB L' o.hide, q.2.2) := by
            simp only [AOp.sem]
            repeat' split
            all_goals first | rfl | (simp only [ret1]; cases asV agg n _ <;> rfl)
          rw [e3, this]; rfl
        rw [e2]; rfl
  · rw [if_neg hw] at hj
    simp at hj
    obtain ⟨rfl, rfl, rfl, rfl⟩ := hj
    exact ⟨rfl, rfl, rfl, fun L' H' om' _ => by rw [opF_plain T hc, if_neg hw]⟩

theorem safe_refl (H : Heap) : SafeSub H H := fun id c h1 h2 h3 => ⟨h1, h3⟩
theorem get_add (H : Heap) (x : AObj) (i : Nat) : (H.add x).get i = if i = H.next then some x else H.get i := by
  simp only [Heap.add, Heap.get, oget]
  by_cases h : i = H.next
  · subst h; simp
  · have : Nat.beq H.next i = false := by
      cases hb : Nat.beq H.next i with
      | false => rfl
      | true => exact absurd (Nat.eq_of_beq_eq_true hb).symm h
    simp [this, h]
theorem get_del (H : Heap) (j i : Nat) : (H.del j).get i = if i = j then none else H.get i := by
  simp only [Heap.get, Heap.del, oget_odel]
theorem safe_add {H H0 : Heap} {x : AObj} (hx : ∀ c, x = .cells c → c.all AV.scalar = true) (hn : H0.next = H.next) (h0 : ∀ id c, c.all AV.scalar = false → (H0.get id = some (.cells c) ↔ H.get id = some (.cells c))) : SafeSub H (H0.add x) ∧ SafeSub (H0.add x) H := by
  refine ⟨fun id c h1 h2 h3 => ?_, fun id c h1 h2 h3 => ?_⟩
  · have hlt : id < H.next := by simpa [Nat.blt_eq] using h3
    refine ⟨?_, by simp only [Heap.add, Nat.blt_eq]; omega⟩
    rw [get_add, if_neg (by omega)]
    exact (h0 id c h2).2 h1
  · rw [get_add] at h1
    by_cases hi : id = H0.next
    · rw [if_pos hi] at h1
      simp only [Option.some.injEq] at h1
      rw [hx c h1] at h2; simp at h2
    · rw [if_neg hi] at h1
      have hlt : id < H0.next + 1 := by simpa [Heap.add, Nat.blt_eq] using h3
      exact ⟨(h0 id c h2).1 h1, by simp only [Nat.blt_eq]; omega⟩
theorem all_take {l : List AV} (h : l.all AV.scalar = true) (n : Nat) : (l.take n).all AV.scalar = true := by
  rw [List.all_eq_true] at h ⊢
  exact fun x hx => h x (List.mem_of_mem_take hx)
theorem all_drop {l : List AV} (h : l.all AV.scalar = true) (n : Nat) : (l.drop n).all AV.scalar = true := by
  rw [List.all_eq_true] at h ⊢
  exact fun x hx => h x (List.mem_of_mem_drop hx)
theorem safe_new {H H0 : Heap} {hp : Bool} {esz need : Nat} {cs : List AV} {r : AV × Heap} (hc : cs.all AV.scalar = true) (hn : H0.next = H.next) (h0 : ∀ id c, c.all AV.scalar = false → (H0.get id = some (.cells c) ↔ H.get id = some (.cells c))) (h : appNew hp esz need cs H0 = some r) : SafeSub H r.2 ∧ SafeSub r.2 H := by
  unfold appNew at h
  cases hp with
  | true => simp at h; subst h; exact safe_add (fun c e => by cases e; exact hc) hn h0
  | false => simp at h; subst h; exact safe_add (fun c e => by cases e) hn h0
theorem app_safe {hp : Bool} {esz bytes : Nat} {H : Heap} {s x : AV} {r : AV × Heap} (hf : appFlat esz H s x = true) (h : append hp esz bytes H s x = some r) : SafeSub H r.2 ∧ SafeSub r.2 H := by
  unfold append at h
  unfold appFlat at hf
  cases hsc : sliceCells H esz x with
  | none => rw [hsc] at h; simp at h
  | some q =>
    obtain ⟨xs, m⟩ := q
    rw [hsc] at h hf
    simp only [Bool.and_eq_true] at hf
    obtain ⟨hf1, hf2⟩ := hf
    dsimp only at h
    split at h
    · rename_i cs len tk
      have hall : (cs ++ xs).all AV.scalar = true := by rw [List.all_append]; simp only at hf1; simp [hf1, hf2]
      split at h
      · split at h
        · simp at h; subst h; exact ⟨safe_refl _, safe_refl _⟩
        · split at h
          · exact safe_new hall rfl (fun _ _ _ => Iff.rfl) h
          · exact safe_new hall rfl (fun _ _ _ => Iff.rfl) h
          · rename_i t e
            split at h
            · rename_i hgt
              split at h
              · refine safe_new (H0 := H.del t) hall rfl (fun id c hc => ?_) h
                rw [get_del]
                by_cases hi : id = t
                · subst hi; rw [if_pos rfl, hgt]; simp
                · rw [if_neg hi]
              · simp at h
            · simp at h
          · simp at h
      · simp at h
    · rename_i id off len e
      split at h
      · rename_i c hgc
        simp only [hgc] at hf1
        split at h
        · refine safe_new (H0 := H.del id) (by rw [List.all_append, all_take (all_drop hf1 _) _, hf2]; rfl) rfl (fun id' c' hc => ?_) h
          rw [get_del]
          by_cases hi : id' = id
          · subst hi
            rw [if_pos rfl, hgc]
            constructor
            · intro h; simp at h
            · intro h; simp at h; subst h; rw [hf1] at hc; simp at hc
          · rw [if_neg hi]
        · simp at h
      · simp at h
    · simp at h
theorem appS_spec {o : AOper} {hp : Bool} {esz bytes : Nat} {s x : AOpd} (ho : o.op = .appS hp esz bytes s x) (hj : opF call o T L H om = some (vj, L1, H1, om1)) :
    L1 = L ∧ om1 = om ∧ SafeSub H H1 ∧ SafeSub H1 H := by
  have hc : ∀ f xs, o.op ≠ .call f xs := fun f xs e => by rw [ho] at e; cases e
  have hr : o.op.reads = false := by rw [ho]; rfl
  have hs : ∀ n a x, o.op ≠ .store n a x := fun n a x e => by rw [ho] at e; cases e
  rw [opF_plain T hc, semX_notread T hr hs] at hj
  by_cases hw : wantedA T o.guard = true
  · rw [if_pos hw, ho] at hj
    simp only [AOp.sem] at hj
    split at hj
    · rename_i u v e1 e2
      split at hj
      · rename_i w h' e3 e4
        simp at hj
        obtain ⟨_, rfl, rfl, rfl⟩ := hj
        obtain ⟨q1, q2⟩ := app_safe e3 e4
        exact ⟨rfl, rfl, q1, q2⟩
      · simp at hj
    · simp at hj
  · rw [if_neg hw] at hj
    simp at hj
    obtain ⟨_, rfl, rfl, rfl⟩ := hj
    exact ⟨rfl, rfl, safe_refl _, safe_refl _⟩

theorem core (h : indCl j i = true) (hdn : dne j.dst i.dst = true) (hj : opF call j T L H om = some (vj, L1, H1, om1)) (hi : opF call i T L1 H1 om1 = some (vi, L2, H2, om2)) :
    ∃ L' H' om', opF call i T L H om = some (vi, L', H', om') ∧ opF call j T L' H' om' = some (vj, L2, H2, om2) := by
  by_cases hsj : j.op.cl = .silent
  · obtain ⟨r, hr⟩ := silent_spec (call := call) T hsj
    rw [hr] at hj
    cases r with
    | none => simp at hj
    | some v =>
      simp at hj; obtain ⟨rfl, rfl, rfl, rfl⟩ := hj
      exact ⟨L2, H2, om2, hi, by rw [hr]; rfl⟩
  by_cases hsi : i.op.cl = .silent
  · obtain ⟨r, hr⟩ := silent_spec (call := call) T hsi
    rw [hr] at hi
    cases r with
    | none => simp at hi
    | some v =>
      simp at hi; obtain ⟨rfl, rfl, rfl, rfl⟩ := hi
      exact ⟨L, H, om, by rw [hr]; rfl, hj⟩
  by_cases hlm : lookMent j i = true
  · exact look_ment hlm hj hi
  have hlm : lookMent j i = false := by simpa using hlm
  by_cases hla : loadApp j i = true
  · unfold loadApp at hla
    split at hla
    · rename_i _ _ agg n x hp esz bytes s' x' e1 e2
      obtain ⟨rfl, rfl, rfl, hl⟩ := loadS_spec e1 hj
      obtain ⟨rfl, rfl, s1, s2⟩ := appS_spec e2 hi
      exact ⟨_, _, _, hi, hl _ _ _ s1⟩
    · simp at hla
  have hla : loadApp j i = false := by simpa using hla
  by_cases hal : loadApp i j = true
  · unfold loadApp at hal
    split at hal
    · rename_i _ _ agg n x hp esz bytes s' x' e1 e2
      obtain ⟨rfl, rfl, s1, s2⟩ := appS_spec e2 hj
      obtain ⟨rfl, rfl, rfl, hl⟩ := loadS_spec e1 hi
      exact ⟨_, _, _, hl _ _ _ s2, hj⟩
    · simp at hal
  have hal : loadApp i j = false := by simpa using hal
  unfold indCl at h
  cases cj : j.op.cl with
  | silent => exact absurd cj hsj
  | read =>
    obtain ⟨f, hf, ef⟩ := read_spec (call := call) T cj
    rw [ef] at hj
    cases hfv : f L H with
    | none => simp [hfv] at hj
    | some v =>
      rw [hfv] at hj; simp at hj; obtain ⟨rfl, rfl, rfl, rfl⟩ := hj
      refine ⟨L2, H2, om2, hi, ?_⟩
      rw [ef]
      cases ci : i.op.cl with
      | silent => exact absurd ci hsi
      | read =>
        obtain ⟨g, hg, eg⟩ := read_spec (call := call) T ci
        rw [eg] at hi
        cases hgv : g L H with
        | none => simp [hgv] at hi
        | some v' => rw [hgv] at hi; simp at hi; obtain ⟨_, rfl, rfl, rfl⟩ := hi; rw [hfv]; rfl
      | box =>
        rw [cj, ci] at h
        simp only at h
        obtain ⟨d, hd⟩ := Option.isSome_iff_exists.1 h
        obtain ⟨r, er⟩ := box_spec (call := call) T ci hd
        rw [er] at hi
        split at hi
        · simp at hi
        · simp at hi; obtain ⟨_, rfl, rfl, rfl⟩ := hi; rw [hfv]; rfl
        · rename_i c
          simp at hi; obtain ⟨_, rfl, rfl, rfl⟩ := hi
          rw [hf.box _ _ _ _ _ hfv]; rfl
      | eff =>
        rw [cj, ci, hlm, hla] at h
        simp at h
        obtain ⟨g, eg⟩ := eff_spec (call := call) T ci
        rw [eg] at hi
        cases hgv : g H om with
        | none => simp [hgv] at hi
        | some q => obtain ⟨qv, qH, qo⟩ := q; rw [hgv] at hi; simp at hi; obtain ⟨_, rfl, rfl, rfl⟩ := hi; rw [hf.nh h _ _ H, hfv]; rfl
      | store =>
        rw [cj, ci] at h
        obtain ⟨n, a, x, k, s1, s2, s3⟩ := hid_spec h
        obtain ⟨g, eg⟩ := store_spec (call := call) T s1 s2
        rw [eg] at hi
        split at hi
        · simp at hi
        · simp at hi; obtain ⟨_, rfl, rfl, rfl⟩ := hi; rw [hfv]; rfl
        · simp at hi; obtain ⟨_, rfl, rfl, rfl⟩ := hi; rw [hf.hide k s3, hfv]; rfl
  | box =>
    have hd : j.dst.isSome = true := by
      rw [cj] at h
      cases ci : i.op.cl <;> rw [ci] at h <;> simp at h
      · exact absurd ci hsi
      · exact h.1
      · exact h
    obtain ⟨d, hd⟩ := Option.isSome_iff_exists.1 hd
    obtain ⟨r, er⟩ := box_spec (call := call) T cj hd
    rw [cj] at h
    cases ci : i.op.cl with
    | silent => exact absurd ci hsi
    | read => rw [ci] at h; simp at h
    | store => rw [ci] at h; simp at h
    | box =>
      rw [ci] at h
      simp only [Bool.and_eq_true] at h
      obtain ⟨d', hd'⟩ := Option.isSome_iff_exists.1 h.2
      obtain ⟨r', er'⟩ := box_spec (call := call) T ci hd'
      have hne : d ≠ d' := by
        rintro rfl
        rw [hd, hd'] at hdn; simp [dne] at hdn
      rw [er] at hj
      rw [er'] at hi
      split at hj
      · simp at hj
      · simp at hj; obtain ⟨rfl, rfl, rfl, rfl⟩ := hj
        split at hi
        · simp at hi
        · simp at hi; obtain ⟨rfl, rfl, rfl, rfl⟩ := hi
          exact ⟨_, _, _, er' _ _ _, er _ _ _⟩
        · simp at hi; obtain ⟨rfl, rfl, rfl, rfl⟩ := hi
          exact ⟨_, _, _, er' _ _ _, er _ _ _⟩
      · rename_i c
        simp at hj; obtain ⟨rfl, rfl, rfl, rfl⟩ := hj
        split at hi
        · simp at hi
        · simp at hi; obtain ⟨rfl, rfl, rfl, rfl⟩ := hi
          exact ⟨_, _, _, er' _ _ _, er _ _ _⟩
        · rename_i c'
          simp at hi; obtain ⟨rfl, rfl, rfl, rfl⟩ := hi
          refine ⟨bset L d' ((bmax (bget L d'), c') :: bget L d'), H, om, ?_, ?_⟩
          · rw [er', bget_bset, if_neg (Ne.symm hne)]
          · rw [er]; dsimp only; rw [bget_bset, if_neg hne, bset_comm _ d' d _ _ (Ne.symm hne)]; rw [bget_bset, if_neg (Ne.symm hne)]
    | eff =>
      obtain ⟨g, eg⟩ := eff_spec (call := call) T ci
      rw [er] at hj
      rw [eg] at hi
      split at hj
      · simp at hj
      · simp at hj; obtain ⟨rfl, rfl, rfl, rfl⟩ := hj
        cases hgv : g H om with
        | none => simp [hgv] at hi
        | some q =>
          obtain ⟨qv, qH, qo⟩ := q
          rw [hgv] at hi; simp at hi; obtain ⟨rfl, rfl, rfl, rfl⟩ := hi
          exact ⟨L, _, _, by rw [eg, hgv]; rfl, er _ _ _⟩
      · simp at hj; obtain ⟨rfl, rfl, rfl, rfl⟩ := hj
        cases hgv : g H om with
        | none => simp [hgv] at hi
        | some q =>
          obtain ⟨qv, qH, qo⟩ := q
          rw [hgv] at hi; simp at hi; obtain ⟨rfl, rfl, rfl, rfl⟩ := hi
          exact ⟨L, _, _, by rw [eg, hgv]; rfl, er _ _ _⟩
  | eff =>
    have hj0 := hj
    obtain ⟨g, eg⟩ := eff_spec (call := call) T cj
    rw [eg] at hj
    cases hgv : g H om with
    | none => simp [hgv] at hj
    | some q =>
      obtain ⟨qv, qH, qo⟩ := q
      rw [hgv] at hj; simp at hj; obtain ⟨rfl, rfl, rfl, rfl⟩ := hj
      cases ci : i.op.cl with
      | silent => exact absurd ci hsi
      | eff => rw [cj, ci] at h; exact ins_ins h hj0 hi
      | store => rw [cj, ci] at h; simp at h
      | read =>
        rw [cj, ci, hal] at h
        simp only [Bool.or_false] at h
        obtain ⟨f, hf, ef⟩ := read_spec (call := call) T ci
        rw [ef] at hi
        cases hfv : f L qH with
        | none => simp [hfv] at hi
        | some v =>
          rw [hfv] at hi; simp at hi; obtain ⟨rfl, rfl, rfl, rfl⟩ := hi
          exact ⟨L, H, om, by rw [ef, hf.nh h _ _ qH, hfv]; rfl, by rw [eg, hgv]; rfl⟩
      | box =>
        rw [cj, ci] at h
        simp only at h
        obtain ⟨d, hd⟩ := Option.isSome_iff_exists.1 h
        obtain ⟨r, er⟩ := box_spec (call := call) T ci hd
        rw [er] at hi
        split at hi
        · simp at hi
        · simp at hi; obtain ⟨rfl, rfl, rfl, rfl⟩ := hi
          exact ⟨L, H, om, er _ _ _, by rw [eg, hgv]; rfl⟩
        · simp at hi; obtain ⟨rfl, rfl, rfl, rfl⟩ := hi
          exact ⟨_, _, _, er _ _ _, by rw [eg, hgv]; rfl⟩
  | store =>
    cases ci : i.op.cl with
    | silent => exact absurd ci hsi
    | read =>
      rw [cj, ci] at h
      obtain ⟨n, a, x, k, s1, s2, s3⟩ := hid_spec h
      obtain ⟨g, eg⟩ := store_spec (call := call) T s1 s2
      obtain ⟨f, hf, ef⟩ := read_spec (call := call) T ci
      rw [eg] at hj
      rw [ef] at hi
      split at hj
      · simp at hj
      · rename_i hgL
        simp at hj; obtain ⟨rfl, rfl, rfl, rfl⟩ := hj
        cases hfv : f L H with
        | none => simp [hfv] at hi
        | some v =>
          rw [hfv] at hi; simp at hi; obtain ⟨rfl, rfl, rfl, rfl⟩ := hi
          exact ⟨L, H, om, by rw [ef, hfv]; rfl, by rw [eg, hgL]⟩
      · rename_i c hgL
        simp at hj; obtain ⟨rfl, rfl, rfl, rfl⟩ := hj
        rw [hf.hide k s3] at hi
        cases hfv : f L H with
        | none => simp [hfv] at hi
        | some v =>
          rw [hfv] at hi; simp at hi; obtain ⟨rfl, rfl, rfl, rfl⟩ := hi
          exact ⟨L, H, om, by rw [ef, hfv]; rfl, by rw [eg, hgL]⟩
    | box => rw [cj, ci] at h; simp at h
    | eff => rw [cj, ci] at h; simp at h
    | store => rw [cj, ci] at h; simp at h

theorem swap {s s1 s2 : St} (h : ind j i = true) (hj : step call j s = some s1) (hi : step call i s1 = some s2) : ∃ s1', step call i s = some s1' ∧ step call j s1' = some s2 := by
  simp only [ind, Bool.and_eq_true] at h
  obtain ⟨⟨⟨h1, h2⟩, h3⟩, h4⟩ := h
  unfold step at hj hi
  split at hj
  · rename_i vj L1 H1 om1 ej
    simp at hj; subst hj
    split at hi
    · rename_i vi L2 H2 om2 ei
      simp at hi; subst hi
      rw [opF_congr (disj_spec h1)] at ei
      obtain ⟨L', H', om', e1, e2⟩ := core h4 h3 ej ei
      refine ⟨⟨putT s.T i.dst vi, L', H', om'⟩, by unfold step; rw [e1], ?_⟩
      unfold step
      dsimp only
      rw [opF_congr (disj_spec h2), e2]
      dsimp only
      rw [putT_comm h3]
    · simp at hi
  · simp at hj

theorem bubble : ∀ {xs : List AOper} {ys : List AOper} {s sf : St}, (∀ j ∈ xs, ind j i = true) → steps call (xs ++ i :: ys) s = some sf → ∃ s1, step call i s = some s1 ∧ steps call (xs ++ ys) s1 = some sf
  | [], ys, s, sf, _, h => by
    simp only [List.nil_append, steps] at h
    split at h
    · rename_i s' e; exact ⟨s', e, h⟩
    · simp at h
  | x :: xs, ys, s, sf, hx, h => by
    simp only [List.cons_append, steps] at h
    split at h
    · rename_i s' e
      obtain ⟨s1, e1, e2⟩ := bubble (fun j hj => hx j (by simp [hj])) h
      obtain ⟨s2, e3, e4⟩ := swap (hx x (by simp)) e e1
      refine ⟨s2, e3, ?_⟩
      simp only [List.cons_append, steps, e4]
      exact e2
    · simp at h
end
end Go.Am
