/- A call goes alike from a memory in which more lies: operations, code, calls. -/
import Derived.Test.YtjjcongjjikifaaAmZ
set_option linter.unusedVariables false
set_option linter.unusedSimpArgs false
namespace Go.Am
section
variable {k v : Nat}

theorem cmpInt_sh (op : BinOp) (a b : Int) : (cmpInt op a b).map (shA k) = cmpInt op a b := by
  cases op <;> rfl
theorem binInt_sh (op : BinOp) (q : IntKind) (a b : Int) : (binInt op q a b).map (shA k) = binInt op q a b := by
  cases op <;> simp only [binInt, cmpInt_sh] <;> first | rfl | (split <;> rfl)
theorem binShift_sh (op : BinOp) (q : IntKind) (a b : Int) : (binShift op q a b).map (shA k) = binShift op q a b := by
  unfold binShift
  split
  · rfl
  · cases op <;> rfl
theorem binStr_sh (op : BinOp) (a b : List UInt8) : (binStr op a b).map (shA k) = binStr op a b := by
  cases op <;> simp only [binStr] <;> first | rfl | (split <;> rfl)
theorem shK_nil (t : Tk) : decide (shK k t = .nil) = decide (t = .nil) := by cases t <;> simp [shK]
theorem nil_pl (cs : List AV) (l : Nat) (tk : Tk) : (shA k (.pl cs l tk) = .pl [] 0 .nil) ↔ (AV.pl cs l tk = .pl [] 0 .nil) := by
  simp only [shA, shL_map, AV.pl.injEq, List.map_eq_nil_iff]
  cases tk <;> simp [shK]
theorem binOp_sh {ty : BTy} {op : BinOp} {a b c : AV} (h : binOp ty op a b = some c) : binOp ty op (shA k a) (shA k b) = some (shA k c) := by
  unfold binOp at h
  split at h
  · rename_i q x q' y
    have key : binOp ty op (.int q x) (.int q' y) = some c := by unfold binOp; exact h
    have hc : shA k c = c := by
      split at h
      · have := binShift_sh (k := k) .shl q x y; rw [h] at this; simpa using this
      · have := binShift_sh (k := k) .shr q x y; rw [h] at this; simpa using this
      · split at h
        · have := binInt_sh (k := k) op q x y; rw [h] at this; simpa using this
        · simp at h
    rw [hc]; exact key
  · rename_i x y
    have hc : shA k c = c := by have := binStr_sh (k := k) op x y; rw [h] at this; simpa using this
    rw [hc]; exact h
  · rename_i x y
    have hc : shA k c = c := by
      split at h
      · simp at h; subst h; rfl
      · simp at h; subst h; rfl
      · simp at h
    rw [hc]
    simp only [shA, binOp]
    exact h
  · rename_i x y
    simp only [shA, shL_map, binOp]
    split at h
    · rename_i ks
      simp only [flatOk_sh, eqs_sh]
      split at h
      · rename_i hf
        rw [if_pos hf]
        split at h
        · rename_i e; (try rw [e]); simp at h; subst h; rfl
        · rename_i e; (try rw [e]); simp at h; subst h; rfl
        · simp at h
      · simp at h
    · simp at h
  · rename_i cs l tk
    have : shA k (.pl [] 0 .nil) = .pl [] 0 .nil := rfl
    rw [this]
    simp only [shA, binOp, shK_nil]
    split at h
    · simp at h; subst h; rfl
    · simp at h; subst h; rfl
    · simp at h
  · rename_i i o l e
    have : shA k (.pl [] 0 .nil) = .pl [] 0 .nil := rfl
    rw [this]
    simp only [shA, binOp]
    split at h
    · simp at h; subst h; rfl
    · simp at h; subst h; rfl
    · simp at h
  · simp at h
theorem max2_sh (a b : AV) : max2 (shA k a) (shA k b) = (max2 a b).map (shA k) := by
  cases a <;> cases b <;> simp [shA, max2]
theorem min2_sh (a b : AV) : min2 (shA k a) (shA k b) = (min2 a b).map (shA k) := by
  cases a <;> cases b <;> simp [shA, min2]
theorem fold2_sh {f : AV → AV → Option AV} (hf : ∀ a b, f (shA k a) (shA k b) = (f a b).map (shA k)) : ∀ (l : List AV) (a : AV), fold2 f (shA k a) (l.map (shA k)) = (fold2 f a l).map (shA k)
  | [], a => rfl
  | b :: r, a => by
    simp only [List.map_cons, fold2, hf]
    cases f a b with
    | none => rfl
    | some c => exact fold2_sh hf r c
theorem fold1_sh {f : AV → AV → Option AV} (hf : ∀ a b, f (shA k a) (shA k b) = (f a b).map (shA k)) (l : List AV) : fold1 f (l.map (shA k)) = (fold1 f l).map (shA k) := by
  cases l with
  | nil => rfl
  | cons a r => exact fold2_sh hf r a
theorem shT_undef : shT k v .undef = .undef := rfl

theorem ret1_inv {L L' : Boxes} {H H' : Heap} {o : Option AV} {t : TV} (h : ret1 L H o = some (t, L', H')) : ∃ a, o = some a ∧ t = .v a ∧ L' = L ∧ H' = H := by
  cases o with
  | none => simp [ret1] at h
  | some a => simp [ret1] at h; exact ⟨a, rfl, h.1.symm, h.2.1.symm, h.2.2.symm⟩

/-- What is read is read further on. -/
theorem read_sh {op : AOp} (hc : clOp op = true) (hr : op.reads = true) {d : Option Nat} {T : List TV} {L L' : Boxes} {H1 H1' H2 : Heap} (h : ∀ i, H2.get (i + k) = (H1.get i).map (shO k)) (hn : ∀ i, Nat.blt i H1.next = true → Nat.blt (i + k) H2.next = true) {t : TV}
    (hs : op.sem d T L H1 = some (t, L', H1')) : op.sem d (T.map (shT k v)) (shB k L) H2 = some (shT k v t, shB k L, H2) := by
  cases op <;> simp only [AOp.reads, Bool.false_eq_true] at hr
  case load agg n x =>
    simp only [clOp] at hc
    simp only [AOp.sem] at hs ⊢
    rw [ev_sh T hc, cellsAt_sh h]
    cases hq : cellsAt L H1 (ev T x) with
    | none => rw [hq] at hs; simp at hs
    | some cs =>
      rw [hq] at hs
      obtain ⟨a, e1, rfl, _, _⟩ := ret1_inv hs
      simp only [Option.map_some, asV_sh, e1]; rfl
  case loadS agg n x =>
    simp only [clOp] at hc
    simp only [AOp.sem] at hs ⊢
    rw [ev_sh T hc]
    split at hs
    · rename_i id off e
      rw [e]
      simp only [shT, shA, h]
      split at hs
      · rename_i c hg
        rw [hg]
        simp only [Option.map_some, shO, List.length_map, all_scalar]
        split at hs
        · rename_i hb
          simp only [Bool.and_eq_true] at hb
          rw [if_pos (by simp only [Bool.and_eq_true]; exact ⟨hb.1, hn _ hb.2.1, hb.2.2⟩)]
          obtain ⟨a, e1, rfl, _, _⟩ := ret1_inv hs
          rw [← List.map_drop, asV_sh, e1]; rfl
        · simp at hs
      · simp at hs
    · simp at hs
  case lookup kt z ok m key =>
    simp only [clOp, Bool.and_eq_true] at hc
    simp only [AOp.sem] at hs ⊢
    rw [eva_sh T hc.1.2, eva_sh T hc.2]
    split at hs
    · rename_i id ky e1 e2
      rw [e1, e2]
      simp only [Option.map_some, shA, h]
      split at hs
      · rename_i es hg
        rw [hg]
        simp only [Option.map_some, shO, ktOk_sh, mfind_sh]
        split at hs
        · rename_i r e3 e4
          rw [e3, e4]
          simp only [Option.map_some]
          have hz : shA k z = z := clA_sh k hc.1.1
          cases ok <;> simp only [Bool.false_eq_true, if_false, if_true, Option.some.injEq, Prod.mk.injEq] at hs ⊢ <;> obtain ⟨rfl, _, _⟩ := hs <;> cases r <;> simp [shT, shA, shL, hz]
        · simp at hs
      · simp at hs
    · simp at hs
  case bstr x =>
    simp only [clOp] at hc
    simp only [AOp.sem] at hs ⊢
    rw [eva_sh T hc]
    cases hx : eva T x with
    | none => rw [hx] at hs; simp at hs
    | some a =>
      rw [hx] at hs
      simp only [Option.map_some, sliceCells_sh h]
      dsimp only at hs
      have hns : notStr (shA k a) = notStr a := by cases a <;> rfl
      rw [hns]
      split at hs
      · rename_i cs n e1 e2
        rw [e1, e2]
        obtain ⟨a', e3, rfl, _, _⟩ := ret1_inv hs
        simp only [Option.map_some, unBytes_sh]
        obtain ⟨l, hl, rfl⟩ := Option.map_eq_some_iff.1 e3
        rw [hl]; rfl
      · simp at hs
  case len ty x =>
    have hr := Nat.eq_of_beq_eq_true hr
    subst hr
    simp only [clOp] at hc
    simp only [AOp.sem] at hs ⊢
    rw [ev_sh T hc]
    split at hs
    · rename_i e1 e2; simp at e1
    · rename_i e1 e2; simp at e1
    · rename_i e1 e2; simp at e1
    · rename_i i e1 e2
      rw [e2]
      simp only [shT, shA, h]
      split at hs
      · rename_i es hg
        rw [hg]
        simp only [Option.some.injEq, Prod.mk.injEq] at hs
        obtain ⟨rfl, _, _⟩ := hs
        simp [shO, shT, shA]
      · simp at hs
    · rename_i e1 e2
      rw [e2]
      simp only [Option.some.injEq, Prod.mk.injEq] at hs
      obtain ⟨rfl, _, _⟩ := hs
      rfl
    · simp at hs
  case sliceA n esz x lo hi =>
    simp only [clOp, Bool.and_eq_true] at hc
    simp only [AOp.sem] at hs ⊢
    rw [ev_sh T hc.1.1, evo_sh T hc.1.2, evo_sh T hc.2]
    simp only [bound_sh]
    split at hs
    · rename_i id off e
      rw [e]
      simp only [shT, shA, h]
      split at hs
      · rename_i b e2
        (try rw [e2]); (try dsimp only)
        split at hs
        · rename_i a e3
          (try rw [e3]); (try dsimp only)
          split at hs
          · rename_i c hg
            rw [hg]
            simp only [Option.map_some, shO, List.length_map]
            split at hs
            · rename_i hb
              rw [if_pos hb]
              simp only [Option.some.injEq, Prod.mk.injEq] at hs
              obtain ⟨rfl, _, _⟩ := hs
              rfl
            · simp at hs
          · simp at hs
        · simp at hs
      · simp at hs
    · simp at hs

theorem newBox_sh {L L' : Boxes} {H1 H1' H2 : Heap} (h : HR k v H1 H2) {d : Option Nat} {p : Bool} {c : List AV} {t : TV} (hs : newBox L H1 d p c = some (t, L', H1')) : ∃ H2', newBox (shB k L) H2 d p (c.map (shA k)) = some (shT k v t, shB k L', H2') ∧ HR k v H1' H2' := by
  unfold newBox at hs ⊢
  cases p with
  | true =>
    simp only [if_true] at hs ⊢
    cases d with
    | none => simp at hs
    | some d =>
      simp only [Option.some.injEq, Prod.mk.injEq] at hs ⊢
      obtain ⟨rfl, rfl, rfl⟩ := hs
      refine ⟨H2, ⟨?_, ?_, rfl⟩, h⟩
      · simp only [bget_sh, bmax_sh, shT]
      · rw [bget_sh, bmax_sh, ← bset_sh]; rfl
  | false =>
    simp only [Bool.false_eq_true, if_false, Option.some.injEq, Prod.mk.injEq] at hs ⊢
    obtain ⟨rfl, rfl, rfl⟩ := hs
    exact ⟨_, ⟨by simp [shT, shA, h.next], rfl, rfl⟩, h.add _⟩

theorem sem_sh {op : AOp} (hc : clOp op = true) {d : Option Nat} {T : List TV} {L L' : Boxes} {H1 H1' H2 : Heap} (h : HR k v H1 H2) {t : TV} (hs : op.sem d T L H1 = some (t, L', H1')) :
    ∃ H2', op.sem d (T.map (shT k v)) (shB k L) H2 = some (shT k v t, shB k L', H2') ∧ HR k v H1' H2' := by
  have hblt : ∀ i, Nat.blt i H1.next = true → Nat.blt (i + k) H2.next = true := fun i hi => by rw [h.next]; simp [Nat.blt_eq] at hi ⊢; omega
  have rd : op.reads = true → ∃ H2', op.sem d (T.map (shT k v)) (shB k L) H2 = some (shT k v t, shB k L', H2') ∧ HR k v H1' H2' := by
    intro hr
    have h1 := read_sh (v := v) (L := L) hc hr h.get hblt hs
    have h2 := hide_sem hr (ks := []) (.inl rfl) hs
    rw [hs] at h2
    simp only [Option.some.injEq, Prod.mk.injEq] at h2
    obtain ⟨_, rfl, rfl⟩ := h2
    exact ⟨H2, h1, h⟩
  cases op
  case load => exact rd rfl
  case loadS => exact rd rfl
  case lookup => exact rd rfl
  case bstr => exact rd rfl
  case sliceA => exact rd rfl
  case mv x =>
    simp only [clOp] at hc
    simp only [AOp.sem, Option.some.injEq, Prod.mk.injEq] at hs ⊢
    obtain ⟨rfl, rfl, rfl⟩ := hs
    exact ⟨H2, ⟨ev_sh T hc, rfl, rfl⟩, h⟩
  case pick c a b =>
    simp only [clOp, Bool.and_eq_true] at hc
    simp only [AOp.sem] at hs ⊢
    rw [ev_sh T hc.1.1, ev_sh T hc.1.2, ev_sh T hc.2]
    split at hs
    · rename_i u e
      rw [e]
      simp only [Option.some.injEq, Prod.mk.injEq] at hs
      obtain ⟨rfl, rfl, rfl⟩ := hs
      refine ⟨H2, ?_, h⟩
      cases u <;> rfl
    · simp at hs
  case alloc p z =>
    simp only [clOp] at hc
    simp only [AOp.sem] at hs ⊢
    have := newBox_sh h hs
    rw [clL_map k hc] at this
    exact this
  case box p x =>
    simp only [clOp] at hc
    simp only [AOp.sem] at hs ⊢
    rw [eva_sh T hc]
    cases hx : eva T x with
    | none => rw [hx] at hs; simp at hs
    | some a =>
      rw [hx] at hs
      simp only [Option.map_some, shA_cells]
      exact newBox_sh h hs
  case build z ps =>
    simp only [clOp, Bool.and_eq_true] at hc
    simp only [AOp.sem] at hs ⊢
    obtain ⟨a, e1, rfl, rfl, rfl⟩ := ret1_inv hs
    obtain ⟨l, e2, rfl⟩ := Option.map_eq_some_iff.1 e1
    have := fillA_sh (k := k) (v := v) T hc.2 z
    rw [clL_map k hc.1, e2] at this
    rw [this]
    exact ⟨H2, by simp [ret1, shT, shA, shL_map], h⟩
  case bslice hp n z ps =>
    simp only [clOp, Bool.and_eq_true] at hc
    simp only [AOp.sem] at hs ⊢
    have := fillA_sh (k := k) (v := v) T hc.2 z
    rw [clL_map k hc.1] at this
    rw [this]
    cases hf : fillA T z ps with
    | none => rw [hf] at hs; simp at hs
    | some cs =>
      rw [hf] at hs
      simp only [Option.map_some]
      cases hp with
      | true =>
        simp only [if_true] at hs ⊢
        split at hs
        · simp at hs
        · rename_i hn
          rw [if_neg hn]
          simp only [Option.some.injEq, Prod.mk.injEq] at hs
          obtain ⟨rfl, rfl, rfl⟩ := hs
          exact ⟨_, by simp only [shT, shA, h.next, List.length_map]; rfl, h.add (.cells cs)⟩
      | false =>
        simp only [Bool.false_eq_true, if_false, Option.some.injEq, Prod.mk.injEq] at hs ⊢
        obtain ⟨rfl, rfl, rfl⟩ := hs
        exact ⟨H2, ⟨by simp [shT, shA, shL_map, shK], rfl, rfl⟩, h⟩
  case store n a x =>
    simp only [clOp, Bool.and_eq_true] at hc
    simp only [AOp.sem] at hs ⊢
    rw [ev_sh T hc.1, eva_sh T hc.2]
    split at hs
    · rename_i j g off u e1 e2
      rw [e1, e2]
      simp only [shT, Option.map_some, bget_sh, bgen_sh]
      cases hg : bgen (bget L j) g with
      | none => rw [hg] at hs; simp at hs
      | some c =>
        rw [hg] at hs
        simp only [Option.map_some, shA_cells, List.length_map, all_one, splice_sh, bput_sh, bset_sh]
        dsimp only at hs
        split at hs
        · rename_i hb
          rw [if_pos hb]
          simp only [Option.some.injEq, Prod.mk.injEq] at hs
          obtain ⟨rfl, rfl, rfl⟩ := hs
          exact ⟨H2, rfl, h⟩
        · simp at hs
    · rename_i id off u e1 e2
      rw [e1, e2]
      simp only [shT, shA, Option.map_some, h.get]
      cases hg : H1.get id with
      | none => rw [hg] at hs; simp at hs
      | some o =>
        rw [hg] at hs
        cases o <;> simp only [Option.map_some, shO] <;> try (simp at hs; done)
        rename_i c
        simp only [shA_cells, List.length_map, all_one, splice_sh]
        dsimp only at hs
        split at hs
        · rename_i hb
          rw [if_pos hb]
          simp only [Option.some.injEq, Prod.mk.injEq] at hs
          obtain ⟨rfl, rfl, rfl⟩ := hs
          exact ⟨_, rfl, h.put id (.cells _)⟩
        · simp at hs
    · simp at hs
  case nilck x =>
    simp only [clOp] at hc
    simp only [AOp.sem] at hs ⊢
    rw [ev_sh T hc]
    split at hs <;> first
      | (rename_i e; rw [e]; simp only [Option.some.injEq, Prod.mk.injEq] at hs; obtain ⟨rfl, rfl, rfl⟩ := hs; exact ⟨H2, rfl, h⟩)
      | (simp at hs)
  case bin ty op x y =>
    simp only [clOp, Bool.and_eq_true] at hc
    simp only [AOp.sem] at hs ⊢
    rw [eva_sh T hc.1, eva_sh T hc.2]
    split at hs
    · rename_i a b e1 e2
      rw [e1, e2]
      obtain ⟨c, e3, rfl, rfl, rfl⟩ := ret1_inv hs
      exact ⟨H2, by simp only [Option.map_some, binOp_sh e3]; rfl, h⟩
    · simp at hs
  case not x =>
    simp only [clOp] at hc
    simp only [AOp.sem] at hs ⊢
    rw [ev_sh T hc]
    split at hs
    · rename_i e; rw [e]; simp only [Option.some.injEq, Prod.mk.injEq] at hs; obtain ⟨rfl, rfl, rfl⟩ := hs; exact ⟨H2, rfl, h⟩
    · simp at hs
  case neg x =>
    simp only [clOp] at hc
    simp only [AOp.sem] at hs ⊢
    rw [ev_sh T hc]
    split at hs
    · rename_i e; rw [e]; simp only [Option.some.injEq, Prod.mk.injEq] at hs; obtain ⟨rfl, rfl, rfl⟩ := hs; exact ⟨H2, rfl, h⟩
    · simp at hs
  case bnot x =>
    simp only [clOp] at hc
    simp only [AOp.sem] at hs ⊢
    rw [ev_sh T hc]
    split at hs
    · rename_i q n e
      rw [e]
      obtain ⟨c, e3, rfl, rfl, rfl⟩ := ret1_inv hs
      have := binInt_sh (k := k) .xor q (if q.signed then -1 else q.max) n
      rw [e3] at this
      simp only [Option.map_some, Option.some.injEq] at this
      exact ⟨H2, by simp only [shT, shA, e3, this]; rfl, h⟩
    · simp at hs
  case cint q x =>
    simp only [clOp] at hc
    simp only [AOp.sem] at hs ⊢
    rw [ev_sh T hc]
    split at hs
    · rename_i e; rw [e]; simp only [Option.some.injEq, Prod.mk.injEq] at hs; obtain ⟨rfl, rfl, rfl⟩ := hs; exact ⟨H2, rfl, h⟩
    · simp at hs
  case cstr x =>
    simp only [clOp] at hc
    simp only [AOp.sem] at hs ⊢
    rw [ev_sh T hc]
    split at hs
    · rename_i e; rw [e]; simp only [Option.some.injEq, Prod.mk.injEq] at hs; obtain ⟨rfl, rfl, rfl⟩ := hs; exact ⟨H2, rfl, h⟩
    · simp at hs
  case sbytes x =>
    simp only [clOp] at hc
    simp only [AOp.sem] at hs ⊢
    rw [ev_sh T hc]
    split at hs
    · rename_i l e
      rw [e]
      simp only [Option.some.injEq, Prod.mk.injEq] at hs
      obtain ⟨rfl, rfl, rfl⟩ := hs
      exact ⟨H2, by simp [shT, shA, shL_map, shK, Function.comp_def], h⟩
    · simp at hs
  case faddr o x =>
    simp only [clOp] at hc
    simp only [AOp.sem] at hs ⊢
    rw [ev_sh T hc]
    split at hs
    · rename_i e; rw [e]; simp only [Option.some.injEq, Prod.mk.injEq] at hs; obtain ⟨rfl, rfl, rfl⟩ := hs; exact ⟨H2, rfl, h⟩
    · rename_i e; rw [e]; simp only [Option.some.injEq, Prod.mk.injEq] at hs; obtain ⟨rfl, rfl, rfl⟩ := hs; exact ⟨H2, rfl, h⟩
    · rename_i cs e
      rw [e]
      simp only [shT, shA, shL_map, List.length_map]
      split at hs
      · rename_i hb
        rw [if_pos hb]
        simp only [Option.some.injEq, Prod.mk.injEq] at hs; obtain ⟨rfl, rfl, rfl⟩ := hs
        exact ⟨H2, by simp [shT, shA, shL_map, List.map_drop], h⟩
      · simp at hs
    · simp at hs
  case field agg off n x =>
    simp only [clOp] at hc
    simp only [AOp.sem] at hs ⊢
    rw [ev_sh T hc]
    split at hs
    · rename_i cs e
      rw [e]
      obtain ⟨c, e3, rfl, rfl, rfl⟩ := ret1_inv hs
      simp only [shT, shA, shL_map, ← List.map_drop, asV_sh, e3]
      exact ⟨H2, rfl, h⟩
    · simp at hs
  case iaddr arr esz x i =>
    simp only [clOp, Bool.and_eq_true] at hc
    simp only [AOp.sem] at hs ⊢
    rw [ev_sh T hc.1, ev_sh T hc.2, toIdx_sh]
    split at hs
    · simp at hs
    · rename_i j ej
      (try rw [ej]); (try dsimp only)
      split at hs
      · rename_i n
        split at hs
        · rename_i q a g off e1 e2
          rw [e1, e2]
          simp only [Option.some.injEq, Prod.mk.injEq] at hs; obtain ⟨rfl, rfl, rfl⟩ := hs
          exact ⟨H2, rfl, h⟩
        · rename_i q id off e1 e2
          rw [e1, e2]
          simp only [Option.some.injEq, Prod.mk.injEq] at hs; obtain ⟨rfl, rfl, rfl⟩ := hs
          exact ⟨H2, rfl, h⟩
        · rename_i q cs e1 e2
          rw [e1, e2]
          simp only [shT, shA, shL_map, List.length_map]
          split at hs
          · rename_i hb
            rw [if_pos hb]
            simp only [Option.some.injEq, Prod.mk.injEq] at hs; obtain ⟨rfl, rfl, rfl⟩ := hs
            exact ⟨H2, by simp [shT, shA, shL_map, List.map_drop], h⟩
          · simp at hs
        · simp at hs
      · split at hs
        · rename_i cs ln tk e2
          rw [e2]
          simp only [shT, shA, shL_map, List.length_map]
          split at hs
          · rename_i q eq
            (try rw [eq]); (try dsimp only)
            split at hs
            · rename_i hb
              rw [if_pos hb]
              simp only [Option.some.injEq, Prod.mk.injEq] at hs; obtain ⟨rfl, rfl, rfl⟩ := hs
              exact ⟨H2, by simp [shT, shA, shL_map, List.map_drop, List.map_take], h⟩
            · simp at hs
          · simp at hs
        · rename_i id off ln e e2
          rw [e2]
          simp only [shT, shA]
          split at hs
          · rename_i q eq
            (try rw [eq]); (try dsimp only)
            split at hs
            · rename_i hb
              rw [if_pos hb]
              simp only [Option.some.injEq, Prod.mk.injEq] at hs; obtain ⟨rfl, rfl, rfl⟩ := hs
              exact ⟨H2, rfl, h⟩
            · simp at hs
          · simp at hs
        · simp at hs
  case index x i =>
    simp only [clOp, Bool.and_eq_true] at hc
    simp only [AOp.sem] at hs ⊢
    rw [ev_sh T hc.1, ev_sh T hc.2, toIdx_sh]
    split at hs
    · rename_i l j e1 e2
      rw [e1, e2]
      simp only [shT, shA]
      split at hs
      · rename_i q eq
        obtain ⟨c, e3, rfl, rfl, rfl⟩ := ret1_inv hs
        (try rw [eq])
        (try dsimp only)
        rw [e3]
        obtain ⟨b, _, rfl⟩ := Option.map_eq_some_iff.1 e3
        exact ⟨H2, rfl, h⟩
      · simp at hs
    · simp at hs
  case sliceS x lo hi =>
    simp only [clOp, Bool.and_eq_true] at hc
    simp only [AOp.sem] at hs ⊢
    rw [ev_sh T hc.1.1, evo_sh T hc.1.2, evo_sh T hc.2]
    simp only [bound_sh]
    split at hs
    · rename_i l e
      rw [e]
      simp only [shT, shA]
      split at hs
      · rename_i b e2
        (try rw [e2]); (try dsimp only)
        split at hs
        · rename_i a e3
          (try rw [e3]); (try dsimp only)
          simp only [Option.some.injEq, Prod.mk.injEq] at hs; obtain ⟨rfl, rfl, rfl⟩ := hs
          exact ⟨H2, rfl, h⟩
        · simp at hs
      · simp at hs
    · simp at hs
  case sliceL esz x lo hi mx =>
    simp only [clOp, Bool.and_eq_true] at hc
    simp only [AOp.sem] at hs ⊢
    rw [ev_sh T hc.1.1.1, evo_sh T hc.1.1.2, evo_sh T hc.1.2]
    simp only [bound_sh]
    split at hs
    · rename_i cs ln tk e
      rw [e]
      simp only [shT, shA, shL_map, List.length_map]
      split at hs
      · rename_i b e2
        (try rw [e2]); (try dsimp only)
        split at hs
        · rename_i a e3
          (try rw [e3]); (try dsimp only)
          split at hs
          · rename_i hb
            rw [if_pos hb]
            split at hs
            · rename_i hb2
              rw [if_pos hb2]
              simp only [Option.some.injEq, Prod.mk.injEq] at hs; obtain ⟨rfl, rfl, rfl⟩ := hs
              refine ⟨H2, ?_, h⟩
              have : shK k (sliceTk tk a) = sliceTk (shK k tk) a := by
                cases tk with
                | live u e => simp only [sliceTk, shK]; by_cases hz : Nat.beq a 0 = true <;> simp [hz, shK]
                | _ => rfl
              simp [shT, shA, shL_map, List.map_drop, List.map_take, this]
            · rename_i hb2
              rw [if_neg hb2, shK_nil]
              split at hs
              · simp at hs
              · rename_i hb3
                rw [if_neg hb3]
                simp only [Option.some.injEq, Prod.mk.injEq] at hs; obtain ⟨rfl, rfl, rfl⟩ := hs
                exact ⟨H2, by simp [shT, shA, shL_map, List.map_drop, List.map_take, shK], h⟩
          · simp at hs
        · simp at hs
      · simp at hs
    · rename_i id off ln e' e
      rw [e]
      simp only [shT, shA]
      split at hs
      · rename_i b e2
        (try rw [e2]); (try dsimp only)
        split at hs
        · rename_i a e3
          (try rw [e3]); (try dsimp only)
          split at hs
          · rename_i hb
            rw [if_pos hb]
            simp only [Option.some.injEq, Prod.mk.injEq] at hs; obtain ⟨rfl, rfl, rfl⟩ := hs
            exact ⟨H2, rfl, h⟩
          · simp at hs
        · simp at hs
      · simp at hs
    · simp at hs
  case mupd kt m ky x =>
    simp only [clOp, Bool.and_eq_true] at hc
    simp only [AOp.sem] at hs ⊢
    rw [eva_sh T hc.1.1, eva_sh T hc.1.2, eva_sh T hc.2]
    split at hs
    · rename_i id key u e1 e2 e3
      rw [e1, e2, e3]
      simp only [Option.map_some, shA, h.get]
      split at hs
      · rename_i es hg
        rw [hg]
        simp only [Option.map_some, shO, ktOk_sh, mfind_sh, mput_sh]
        split at hs
        · rename_i r q1 q2
          rw [q1, q2]
          simp only [Option.some.injEq, Prod.mk.injEq] at hs; obtain ⟨rfl, rfl, rfl⟩ := hs
          exact ⟨_, rfl, h.put id (.map _)⟩
        · simp at hs
      · simp at hs
    · simp at hs
  case ins kt m ky x =>
    simp only [clOp, Bool.and_eq_true] at hc
    simp only [AOp.sem] at hs ⊢
    rw [eva_sh T hc.1.1, eva_sh T hc.1.2, eva_sh T hc.2]
    split at hs
    · rename_i id key u e1 e2 e3
      rw [e1, e2, e3]
      simp only [Option.map_some, shA]
      unfold insF at hs ⊢
      rw [h.get]
      cases hg : H1.get id with
      | none => rw [hg] at hs; simp at hs
      | some o =>
        rw [hg] at hs
        cases o <;> simp only [Option.map_some, shO] <;> try (simp at hs; done)
        rename_i es
        simp only [ktOk_sh, mfind_sh, mins_sh]
        dsimp only at hs
        have hall : ((es.map (shE k)).all fun e => !decide (enc (shA k key) = enc e.1)) = (es.all fun e => !decide (enc key = enc e.1)) := by
          rw [List.all_map]; congr 1; funext e; simp [shE, enc_sh]
        cases hkt : ktOk kt key with
        | false => rw [hkt] at hs; simp at hs
        | true =>
          cases hmf : mfind key es with
          | none => rw [hkt, hmf] at hs; simp at hs
          | some r =>
            cases r with
            | some y => rw [hkt, hmf] at hs; simp at hs
            | none =>
              rw [hkt, hmf] at hs
              simp only [Option.map_some, Option.map_none, hall]
              dsimp only at hs
              split at hs
              · rename_i H' hh
                split at hh
                · rename_i hb
                  rw [if_pos hb]
                  simp only [Option.some.injEq] at hh
                  subst hh
                  simp only [Option.some.injEq, Prod.mk.injEq] at hs; obtain ⟨rfl, rfl, rfl⟩ := hs
                  exact ⟨_, rfl, h.put id (.map _)⟩
                · simp at hh
              · simp at hs
    · simp at hs
  case ment kt z m ky =>
    simp only [clOp, Bool.and_eq_true] at hc
    have hz : shA k z = z := clA_sh k hc.1.1
    simp only [AOp.sem] at hs ⊢
    rw [eva_sh T hc.1.2, eva_sh T hc.2]
    split at hs
    · rename_i id key e1 e2
      rw [e1, e2]
      simp only [Option.map_some, shA, h.get]
      split at hs
      · rename_i es hg
        rw [hg]
        simp only [Option.map_some, shO, ktOk_sh, mfind_sh]
        split at hs
        · rename_i u q1 q2
          rw [q1, q2]
          simp only [Option.some.injEq, Prod.mk.injEq] at hs; obtain ⟨rfl, rfl, rfl⟩ := hs
          simp only [Option.map_some, mput_sh]
          exact ⟨_, by simp only [shT, h.ver, Nat.add_right_comm]; rfl, h.put id (.map _)⟩
        · rename_i q1 q2
          rw [q1, q2]
          simp only [Option.some.injEq, Prod.mk.injEq] at hs; obtain ⟨rfl, rfl, rfl⟩ := hs
          have hm := mput_sh (k := k) key z es
          rw [hz] at hm
          simp only [Option.map_some, Option.map_none, hm]
          exact ⟨_, by simp only [shT, h.ver, Nat.add_right_comm]; rfl, h.put id (.map _)⟩
        · simp at hs
      · simp at hs
    · simp at hs
  case estore m st x =>
    simp only [clOp, Bool.and_eq_true] at hc
    simp only [AOp.sem] at hs ⊢
    rw [eva_sh T hc.1.1, ev_sh T hc.1.2, eva_sh T hc.2]
    split at hs
    · rename_i id id' key ver u e1 e2 e3
      rw [e1, e2, e3]
      simp only [Option.map_some, shA, shT, h.get, h.ver]
      split at hs
      · rename_i es hg
        rw [hg]
        simp only [Option.map_some, shO]
        split at hs
        · rename_i hb
          simp only [Bool.and_eq_true] at hb
          have b1 := Nat.eq_of_beq_eq_true hb.1
          have b2 := Nat.eq_of_beq_eq_true hb.2
          subst b1; subst b2
          simp only [Nat.beq_refl, Bool.and_self, if_true, mput_sh]
          simp only [Option.some.injEq, Prod.mk.injEq] at hs; obtain ⟨rfl, rfl, rfl⟩ := hs
          exact ⟨_, rfl, h.put id (.map _)⟩
        · simp at hs
      · simp at hs
    · simp at hs
  case mkmap =>
    simp only [AOp.sem, Option.some.injEq, Prod.mk.injEq] at hs ⊢
    obtain ⟨rfl, rfl, rfl⟩ := hs
    exact ⟨_, ⟨by simp [shT, shA, h.next], rfl, rfl⟩, h.add (.map [])⟩
  case mkslice esz bytes z l c =>
    simp only [clOp, Bool.and_eq_true] at hc
    simp only [AOp.sem] at hs ⊢
    rw [ev_sh T hc.1.2, ev_sh T hc.2, toIdx_sh, toIdx_sh]
    split at hs
    · rename_i n m e1 e2
      split at hs
      · rename_i hb
        rw [if_pos hb]
        simp only [Option.some.injEq, Prod.mk.injEq] at hs; obtain ⟨rfl, rfl, rfl⟩ := hs
        have hr := repeatC_sh (k := k) z m.toNat
        rw [clL_map k hc.1.1] at hr
        refine ⟨_, ?_, h.add (.cells _)⟩
        simp only [shT, shA, h.next, shO, ← hr]
      · simp at hs
    · simp at hs
  case mkfun g first cap =>
    simp only [clOp, Bool.and_eq_true] at hc
    simp only [AOp.sem] at hs ⊢
    rw [evas_sh T hc.1, evas_sh T hc.2]
    split at hs
    · rename_i a b e1 e2
      rw [e1, e2]
      simp only [Option.some.injEq, Prod.mk.injEq] at hs; obtain ⟨rfl, rfl, rfl⟩ := hs
      exact ⟨H2, by simp [shT, shA, shL_map], h⟩
    · simp at hs
  case extract i x =>
    simp only [clOp] at hc
    simp only [AOp.sem] at hs ⊢
    rw [ev_sh T hc]
    split at hs
    · rename_i vs e
      rw [e]
      obtain ⟨c, e3, rfl, rfl, rfl⟩ := ret1_inv hs
      simp only [shT, shA, shL_map, List.getElem?_map, e3]
      exact ⟨H2, rfl, h⟩
    · rename_i id key ver e
      rw [e]
      simp only [shT]
      split at hs
      · rename_i hb
        rw [if_pos hb]
        simp only [Option.some.injEq, Prod.mk.injEq] at hs; obtain ⟨rfl, rfl, rfl⟩ := hs
        exact ⟨H2, rfl, h⟩
      · simp at hs
    · simp at hs
  case app hp esz bytes s x =>
    simp only [clOp, Bool.and_eq_true] at hc
    simp only [AOp.sem] at hs ⊢
    rw [eva_sh T hc.1, eva_sh T hc.2]
    split at hs
    · rename_i a b e1 e2
      rw [e1, e2]
      simp only [Option.map_some]
      split at hs
      · rename_i u H' e3
        obtain ⟨q, q1, q2, q3⟩ := append_sh h e3
        rw [q1]
        simp only [Option.some.injEq, Prod.mk.injEq] at hs; obtain ⟨rfl, rfl, rfl⟩ := hs
        simp only at q2
        exact ⟨q.2, by simp [shT, q2], q3⟩
      · simp at hs
    · simp at hs
  case appS hp esz bytes s x =>
    simp only [clOp, Bool.and_eq_true] at hc
    simp only [AOp.sem] at hs ⊢
    rw [eva_sh T hc.1, eva_sh T hc.2]
    split at hs
    · rename_i a b e1 e2
      rw [e1, e2]
      simp only [Option.map_some, appFlat_sh h.get]
      split at hs
      · rename_i u H' e0 e3
        obtain ⟨q, q1, q2, q3⟩ := append_sh h e3
        rw [q1, e0]
        simp only [Option.some.injEq, Prod.mk.injEq] at hs; obtain ⟨rfl, rfl, rfl⟩ := hs
        simp only at q2
        exact ⟨q.2, by simp [shT, q2], q3⟩
      · simp at hs
    · simp at hs
  case clr esz z x =>
    simp only [clOp, Bool.and_eq_true] at hc
    simp only [AOp.sem] at hs ⊢
    rw [ev_sh T hc.2]
    split at hs
    · rename_i id off ln e e1
      rw [e1]
      simp only [shT, shA, h.get]
      split at hs
      · rename_i c hg
        rw [hg]
        simp only [Option.map_some, shO, List.length_map]
        split at hs
        · rename_i hb
          rw [if_pos hb]
          simp only [Option.some.injEq, Prod.mk.injEq] at hs; obtain ⟨rfl, rfl, rfl⟩ := hs
          have hr := repeatC_sh (k := k) z ln
          rw [clL_map k hc.1] at hr
          refine ⟨_, ?_, h.put id (.cells _)⟩
          have e0 : H2.put (id + k) (.cells (splice (c.map (shA k)) off (repeatC z ln))) = H2.put (id + k) (shO k (.cells (splice c off (repeatC z ln)))) := by
            rw [shO, ← splice_sh, ← hr]
          rw [e0]; rfl
        · simp at hs
      · simp at hs
    · rename_i cs tk e1
      rw [e1]
      simp only [Option.some.injEq, Prod.mk.injEq] at hs; obtain ⟨rfl, rfl, rfl⟩ := hs
      exact ⟨H2, rfl, h⟩
    · simp at hs
  case len ty x =>
    simp only [clOp] at hc
    simp only [AOp.sem] at hs ⊢
    rw [ev_sh T hc]
    split at hs
    · rename_i e1; rw [e1]
      simp only [Option.some.injEq, Prod.mk.injEq] at hs; obtain ⟨rfl, rfl, rfl⟩ := hs
      exact ⟨H2, rfl, h⟩
    · rename_i e1; rw [e1]
      simp only [Option.some.injEq, Prod.mk.injEq] at hs; obtain ⟨rfl, rfl, rfl⟩ := hs
      exact ⟨H2, rfl, h⟩
    · rename_i e1; rw [e1]
      simp only [Option.some.injEq, Prod.mk.injEq] at hs; obtain ⟨rfl, rfl, rfl⟩ := hs
      exact ⟨H2, rfl, h⟩
    · rename_i i e1
      rw [e1]
      simp only [shT, shA, h.get]
      split at hs
      · rename_i es hg
        rw [hg]
        simp only [Option.some.injEq, Prod.mk.injEq] at hs; obtain ⟨rfl, rfl, rfl⟩ := hs
        exact ⟨H2, by simp [shO, shT, shA], h⟩
      · simp at hs
    · rename_i e1; rw [e1]
      simp only [Option.some.injEq, Prod.mk.injEq] at hs; obtain ⟨rfl, rfl, rfl⟩ := hs
      exact ⟨H2, rfl, h⟩
    · simp at hs
  case max xs =>
    simp only [clOp] at hc
    simp only [AOp.sem] at hs ⊢
    rw [evas_sh T hc]
    obtain ⟨c, e3, rfl, rfl, rfl⟩ := ret1_inv hs
    obtain ⟨l, e4, e5⟩ := Option.bind_eq_some_iff.1 e3
    rw [e4]
    simp only [Option.map_some, Option.bind_some, fold1_sh max2_sh, e5]
    exact ⟨H2, rfl, h⟩
  case min xs =>
    simp only [clOp] at hc
    simp only [AOp.sem] at hs ⊢
    rw [evas_sh T hc]
    obtain ⟨c, e3, rfl, rfl, rfl⟩ := ret1_inv hs
    obtain ⟨l, e4, e5⟩ := Option.bind_eq_some_iff.1 e3
    rw [e4]
    simp only [Option.map_some, Option.bind_some, fold1_sh min2_sh, e5]
    exact ⟨H2, rfl, h⟩
  case call f xs => simp [AOp.sem] at hs

theorem semX_sh {o : AOper} (hc : clOp o.op = true) {T : List TV} {L L' : Boxes} {H1 H1' H2 : Heap} (h : HR k v H1 H2) {t : TV} (hs : semX o T L H1 = some (t, L', H1')) :
    ∃ H2', semX o (T.map (shT k v)) (shB k L) H2 = some (shT k v t, shB k L', H2') ∧ HR k v H1' H2' := by
  unfold semX at hs ⊢
  by_cases hr : o.op.reads = true
  · rw [if_pos hr] at hs ⊢
    rw [hideB_sh]
    have key : ∀ {Ha Hb : Heap}, (∀ i, Hb.get (i + k) = (Ha.get i).map (shO k)) → (∀ i, Nat.blt i Ha.next = true → Nat.blt (i + k) Hb.next = true) → (match o.op.sem o.dst T (hideB L o.hide) Ha with | some (v, _, _) => some (v, L, H1) | none => none) = some (t, L', H1') →
        ∃ H2', (match o.op.sem o.dst (T.map (shT k v)) (shB k (hideB L o.hide)) Hb with | some (v, _, _) => some (v, shB k L, H2) | none => none) = some (shT k v t, shB k L', H2') ∧ HR k v H1' H2' := by
      intro Ha Hb hg hn hs
      cases hq : o.op.sem o.dst T (hideB L o.hide) Ha with
      | none => rw [hq] at hs; simp at hs
      | some q =>
        obtain ⟨u, La, Hx⟩ := q
        rw [hq] at hs
        simp only [Option.some.injEq, Prod.mk.injEq] at hs
        obtain ⟨rfl, rfl, rfl⟩ := hs
        rw [read_sh hc hr hg hn hq]
        exact ⟨H2, rfl, h⟩
    by_cases hnh : o.nh = true
    · rw [if_pos hnh] at hs ⊢
      exact key (fun i => rfl) (fun i hi => by simp [Heap.empty] at hi) hs
    · rw [if_neg hnh] at hs ⊢
      exact key h.get (fun i hi => by rw [h.next]; simp [Nat.blt_eq] at hi ⊢; omega) hs
  · rw [if_neg hr] at hs ⊢
    split at hs
    · rename_i n a x j e1 e2
      rw [e1] at hc
      have hc' := hc
      simp only [clOp, Bool.and_eq_true] at hc
      rw [ev_sh T hc.1]
      split at hs
      · rename_i j' g off e3
        rw [e3]
        simp only [shT]
        split at hs
        · rename_i hb
          rw [if_pos hb]
          exact sem_sh hc' h hs
        · simp at hs
      · simp at hs
    · exact sem_sh hc h hs

/-! ### going through a map -/
theorem unseen_sh (seen : List AV) (es : List (AV × AV)) : unseen (seen.map (shA k)) (es.map (shE k)) = (unseen seen es).map (shE k) := by
  unfold unseen
  rw [List.filter_map]
  congr 1
  apply List.filter_congr
  intro e _
  simp only [Function.comp_def, List.any_map, shE, keyEq_sh]
theorem pickE_sh : ∀ (l : List (AV × AV)) (om : List Nat), pickE (l.map (shE k)) om = (pickE l om).map fun q => (shE k q.1, q.2)
  | [], _ => rfl
  | [e], om => rfl
  | e :: e' :: r, [] => rfl
  | e :: e' :: r, 0 :: om => rfl
  | e :: e' :: r, (n + 1) :: om => by
    simp only [List.map_cons, pickE]
    exact pickE_sh (e' :: r) om
def HRo (k v : Nat) (p q : AV × Heap × List Nat) : Prop := q.1 = shA k p.1 ∧ HR k v p.2.1 q.2.1 ∧ q.2.2 = p.2.2
theorem nextF_sh {H1 H2 : Heap} (h : HR k v H1 H2) {x : AV} {om : List Nat} {p : AV × Heap × List Nat} (hp : nextF H1 x om = some p) : ∃ q, nextF H2 (shA k x) om = some q ∧ HRo k v p q := by
  unfold nextF at hp ⊢
  split at hp
  · rename_i i
    simp only [shA]
    rw [h.get]
    split at hp
    · rename_i seen cnt hg
      rw [hg]
      simp only [Option.map_some, shO, Option.map_none]
      simp only [Option.some.injEq] at hp; subst hp
      exact ⟨_, rfl, rfl, h, rfl⟩
    · rename_i m seen cnt hg
      rw [hg]
      simp only [Option.map_some, shO]
      rw [h.get]
      split at hp
      · rename_i es hm
        rw [hm]
        have hall : ((seen.map (shA k)).all fun q => (mfind q (es.map (shE k))).isSome) = (seen.all fun q => (mfind q es).isSome) := by
          rw [List.all_map]; congr 1; funext q
          simp only [Function.comp_def, mfind_sh]
          cases mfind q es <;> rfl
        simp only [Option.map_some, shO, List.length_map, hall, unseen_sh]
        split at hp
        · rename_i hb
          rw [if_pos hb]
          split at hp
          · rename_i hu
            rw [hu]
            simp only [Option.some.injEq] at hp; subst hp
            exact ⟨_, rfl, rfl, h, rfl⟩
          · rename_i l hu
            split at hp
            · rename_i e om' he
              simp only [Option.some.injEq] at hp; subst hp
              have hne : (unseen seen es).map (shE k) ≠ [] := by
                intro hc
                exact hu (by simpa using hc)
              split
              · rename_i hc; exact absurd hc hne
              · rw [pickE_sh, he]
                exact ⟨_, rfl, rfl, h.put i (.iter (some m) (e.1 :: seen) cnt), rfl⟩
            · simp at hp
        · simp at hp
      · simp at hp
    · simp at hp
  · simp at hp
theorem pseudo_sh {H1 H2 : Heap} (h : HR k v H1 H2) {g : Nat} {args : List AV} {om : List Nat} {p : AV × Heap × List Nat} (hp : pseudo g args H1 om = some p) : ∃ q, pseudo g (args.map (shA k)) H2 om = some q ∧ HRo k v p q := by
  unfold pseudo at hp ⊢
  split at hp
  · rename_i x
    simp only [List.map_cons, List.map_nil]
    split at hp
    · rename_i hb; rw [if_pos hb]; exact nextF_sh h hp
    · rename_i hb
      rw [if_neg hb]
      split at hp
      · rename_i hb2
        rw [if_pos hb2]
        split at hp
        · rename_i a h' hr
          simp only [Option.some.injEq] at hp; subst hp
          unfold rangeF at hr ⊢
          split at hr
          · rename_i id
            simp only [shA]
            rw [h.get]
            split at hr
            · rename_i es hg
              rw [hg]
              simp only [Option.some.injEq, Prod.mk.injEq] at hr
              obtain ⟨rfl, rfl⟩ := hr
              simp only [Option.map_some, shO]
              refine ⟨_, rfl, by simp [shA, h.next], ?_, rfl⟩
              have := h.add (.iter (some id) [] es.length)
              simpa [shO] using this
            · simp at hr
          · simp only [shA]
            simp only [Option.some.injEq, Prod.mk.injEq] at hr
            obtain ⟨rfl, rfl⟩ := hr
            refine ⟨_, rfl, by simp [shA, h.next], ?_, rfl⟩
            have := h.add (.iter none [] 0)
            simpa [shO] using this
          · simp at hr
        · simp at hp
      · rename_i hb2
        rw [if_neg hb2]
        split at hp
        · rename_i hb3
          rw [if_pos hb3]
          split at hp
          · rename_i a hr
            simp only [Option.some.injEq] at hp; subst hp
            unfold entryF at hr ⊢
            split at hr
            · rename_i i
              simp only [shA]
              rw [h.get]
              split at hr
              · rename_i m key seen cnt hg
                rw [hg]
                simp only [Option.map_some, shO, List.map_cons]
                rw [h.get]
                split at hr
                · rename_i es hm
                  rw [hm]
                  simp only [Option.map_some, shO, List.length_map, mfind_sh]
                  split at hr
                  · rename_i u e1 e2
                    rw [e1, e2]
                    simp only [Option.some.injEq] at hr; subst hr
                    exact ⟨_, rfl, by simp [shA, shL], h, rfl⟩
                  · simp at hr
                · simp at hr
              · simp at hr
            · simp at hr
          · simp at hp
        · simp at hp
  · simp at hp

/-! ### code -/
def CallSh (k v : Nat) (call : Caller) : Prop := ∀ g args H1 om p, call g args H1 om = some p → ∀ H2, HR k v H1 H2 → ∃ q, call g (args.map (shA k)) H2 om = some q ∧ HRo k v p q
structure RSh (k v : Nat) (s s' : St) : Prop where
  T : s'.T = s.T.map (shT k v)
  L : s'.L = shB k s.L
  H : HR k v s.H s'.H
  om : s'.om = s.om
theorem opF_sh {call : Caller} (hcall : CallSh k v call) {o : AOper} (hc : clOp o.op = true) {T : List TV} {L L' : Boxes} {H1 H1' H2 : Heap} (h : HR k v H1 H2) {t : TV} {om om' : List Nat} (hs : opF call o T L H1 om = some (t, L', H1', om')) :
    ∃ H2', opF call o (T.map (shT k v)) (shB k L) H2 om = some (shT k v t, shB k L', H2', om') ∧ HR k v H1' H2' := by
  unfold opF at hs ⊢
  have hw : wantedA (T.map (shT k v)) o.guard = wantedA T o.guard := by
    unfold wantedA
    split
    · rfl
    · rw [lget_sh]
      cases lget T _ with
      | v a => cases a <;> rfl
      | _ => rfl
  rw [hw]
  by_cases hwt : wantedA T o.guard = true
  · rw [if_pos hwt] at hs ⊢
    cases hop : o.op with
    | call f xs =>
      rw [hop] at hs hc
      simp only [clOp, Bool.and_eq_true] at hc
      dsimp only at hs ⊢
      have hcal : callee (T.map (shT k v)) f xs = (callee T f xs).map fun q => (q.1, q.2.map (shA k)) := by
        unfold callee
        rw [eva_sh T hc.1, evas_sh T hc.2]
        cases eva T f with
        | none => rfl
        | some a => cases evas T xs with
          | none => cases a <;> rfl
          | some l => cases a <;> simp [shA, shL_map]
      rw [hcal]
      cases hca : callee T f xs with
      | none => rw [hca] at hs; simp at hs
      | some q =>
        obtain ⟨g, as⟩ := q
        rw [hca] at hs
        simp only [Option.map_some]
        dsimp only at hs
        cases hcl : call g as H1 om with
        | none => rw [hcl] at hs; simp at hs
        | some p =>
          obtain ⟨u, h', om1⟩ := p
          rw [hcl] at hs
          simp only [Option.some.injEq, Prod.mk.injEq] at hs
          obtain ⟨rfl, rfl, rfl, rfl⟩ := hs
          obtain ⟨⟨u2, h2, om2⟩, e1, e2, e3, e4⟩ := hcall g as H1 om _ hcl H2 h
          simp only at e2 e3 e4
          subst e2; subst e4
          rw [e1]
          exact ⟨_, rfl, e3.bump⟩
    | _ =>
      rw [hop] at hs
      dsimp only at hs ⊢
      cases hx : semX o T L H1 with
      | none => rw [hx] at hs; simp at hs
      | some q =>
        obtain ⟨u, La, Ha⟩ := q
        rw [hx] at hs
        simp only [Option.some.injEq, Prod.mk.injEq] at hs
        obtain ⟨rfl, rfl, rfl, rfl⟩ := hs
        obtain ⟨Hb, e1, e2⟩ := semX_sh hc h hx
        rw [e1]
        exact ⟨Hb, rfl, e2⟩
  · rw [if_neg hwt] at hs ⊢
    simp only [Option.some.injEq, Prod.mk.injEq] at hs
    obtain ⟨rfl, rfl, rfl, rfl⟩ := hs
    exact ⟨H2, rfl, h⟩
theorem step_sh {call : Caller} (hcall : CallSh k v call) {o : AOper} (hc : clOp o.op = true) {s s' s1 : St} (h : RSh k v s s') (hs : step call o s = some s1) : ∃ s2, step call o s' = some s2 ∧ RSh k v s1 s2 := by
  unfold step at hs ⊢
  split at hs
  · rename_i t L H om e
    simp only [Option.some.injEq] at hs; subst hs
    rw [h.T, h.L, h.om]
    obtain ⟨H2', e1, e2⟩ := opF_sh hcall hc h.H e
    rw [e1]
    exact ⟨_, rfl, by simp only [putT_sh], rfl, e2, rfl⟩
  · simp at hs
theorem steps_sh {call : Caller} (hcall : CallSh k v call) : ∀ {l : List AOper} (_ : (l.all fun o => clOp o.op) = true) {s s' s1 : St} (_ : RSh k v s s') (_ : steps call l s = some s1), ∃ s2, steps call l s' = some s2 ∧ RSh k v s1 s2
  | [], _, s, s', s1, h, hs => by simp only [steps, Option.some.injEq] at hs; subst hs; exact ⟨s', rfl, h⟩
  | o :: r, hc, s, s', s1, h, hs => by
    simp only [List.all_cons, Bool.and_eq_true] at hc
    simp only [steps] at hs ⊢
    split at hs
    · rename_i sm e
      obtain ⟨sn, e1, e2⟩ := step_sh hcall hc.1 h e
      rw [e1]
      exact steps_sh hcall hc.2 e2 hs
    · simp at hs
theorem frz_sh : ∀ {ks : List Nat} {s s' s1 : St} (_ : RSh k v s s') (_ : frzT s ks = some s1), ∃ s2, frzT s' ks = some s2 ∧ RSh k v s1 s2
  | [], s, s', s1, h, hs => by simp only [frzT, Option.some.injEq] at hs; subst hs; exact ⟨s', rfl, h⟩
  | j :: ks, s, s', s1, h, hs => by
    simp only [frzT] at hs ⊢
    rw [h.T, lget_sh]
    split at hs
    · rename_i a e
      rw [e]
      simp only [shT]
      obtain ⟨h1, h2⟩ := freezeAll_sh h.H a
      refine frz_sh ?_ hs
      refine ⟨?_, h.L, h2, h.om⟩
      show lset _ j (.v (freezeAll s'.H (shA k a)).1) = _
      rw [h1]
      exact lset_sh s.T j (.v _)
    · simp at hs
def REx (k v : Nat) (p q : Ex × St) : Prop := p.1 = q.1 ∧ RSh k v p.2 q.2
theorem loop_sh {f : St → Option (Ex × St)} (hf : ∀ s s' r, RSh k v s s' → f s = some r → ∃ r', f s' = some r' ∧ REx k v r r') : ∀ (n : Nat) {s s' : St} {r : Ex × St}, RSh k v s s' → loopN f n s = some r → ∃ r', loopN f n s' = some r' ∧ REx k v r r'
  | 0, s, s', r, h, hs => by simp [loopN] at hs
  | n + 1, s, s', r, h, hs => by
    simp only [loopN] at hs ⊢
    cases he : f s with
    | none => rw [he] at hs; simp at hs
    | some p =>
      obtain ⟨e, t⟩ := p
      obtain ⟨⟨e', t'⟩, q1, q2, q3⟩ := hf s s' _ h he
      simp only at q2 q3
      subst q2
      rw [he] at hs
      rw [q1]
      cases e with
      | normal => exact loop_sh hf n q3 hs
      | exit i => simp only [Option.some.injEq] at hs; subst hs; exact ⟨_, rfl, rfl, q3⟩
      | ret => simp only [Option.some.injEq] at hs; subst hs; exact ⟨_, rfl, rfl, q3⟩
theorem exec_sh {call : Caller} (hcall : CallSh k v call) (n : Nat) : ∀ {c : ACode} (_ : clCode c = true) {s s' : St} {r : Ex × St}, RSh k v s s' → exec call n c s = some r → ∃ r', exec call n c s' = some r' ∧ REx k v r r' := by
  intro c
  induction c with
  | skip => intro _ s s' r h hs; simp only [exec, Option.some.injEq] at hs; subst hs; exact ⟨_, rfl, rfl, h⟩
  | ops l d =>
    intro hc s s' r h hs
    simp only [exec] at hs ⊢
    obtain ⟨sf, e1, rfl⟩ := Option.map_eq_some_iff.1 hs
    obtain ⟨s2, e2, e3⟩ := steps_sh hcall hc h e1
    rw [e2]
    exact ⟨_, rfl, rfl, e3⟩
  | frz ks =>
    intro hc s s' r h hs
    simp only [exec] at hs ⊢
    obtain ⟨sf, e1, rfl⟩ := Option.map_eq_some_iff.1 hs
    obtain ⟨s2, e2, e3⟩ := frz_sh h e1
    rw [e2]
    exact ⟨_, rfl, rfl, e3⟩
  | seq a b iha ihb =>
    intro hc s s' r h hs
    simp only [clCode, Bool.and_eq_true] at hc
    simp only [exec] at hs ⊢
    cases he : exec call n a s with
    | none => rw [he] at hs; simp at hs
    | some p =>
      obtain ⟨e, t⟩ := p
      obtain ⟨⟨e', t'⟩, q1, q2, q3⟩ := iha hc.1 h he
      simp only at q2 q3
      subst q2
      rw [he] at hs
      rw [q1]
      cases e with
      | normal => exact ihb hc.2 q3 hs
      | exit i => simp only [Option.some.injEq] at hs; subst hs; exact ⟨_, rfl, rfl, q3⟩
      | ret => simp only [Option.some.injEq] at hs; subst hs; exact ⟨_, rfl, rfl, q3⟩
  | cond p a b iha ihb =>
    intro hc s s' r h hs
    simp only [clCode, Bool.and_eq_true] at hc
    simp only [exec] at hs ⊢
    rw [h.T, ev_sh s.T hc.1.1]
    split at hs
    · rename_i e; rw [e]; exact iha hc.1.2 h hs
    · rename_i e; rw [e]; exact ihb hc.2 h hs
    · simp at hs
  | block i b ih =>
    intro hc s s' r h hs
    simp only [exec] at hs ⊢
    cases he : exec call n b s with
    | none => rw [he] at hs; simp at hs
    | some p =>
      obtain ⟨e, t⟩ := p
      obtain ⟨⟨e', t'⟩, q1, q2, q3⟩ := ih hc h he
      simp only at q2 q3
      subst q2
      rw [he] at hs
      rw [q1]
      cases e with
      | normal => simp only [Option.some.injEq] at hs; subst hs; exact ⟨_, rfl, rfl, q3⟩
      | exit j =>
        dsimp only at hs ⊢
        by_cases hj : Nat.beq j i = true
        · rw [if_pos hj] at hs ⊢; simp only [Option.some.injEq] at hs; subst hs; exact ⟨_, rfl, rfl, q3⟩
        · rw [if_neg hj] at hs ⊢; simp only [Option.some.injEq] at hs; subst hs; exact ⟨_, rfl, rfl, q3⟩
      | ret => simp only [Option.some.injEq] at hs; subst hs; exact ⟨_, rfl, rfl, q3⟩
  | loop b ih =>
    intro hc s s' r h hs
    exact loop_sh (fun s s' r h hs => ih hc h hs) n h hs
  | exit i => intro _ s s' r h hs; simp only [exec, Option.some.injEq] at hs; subst hs; exact ⟨_, rfl, rfl, h⟩
  | ret => intro _ s s' r h hs; simp only [exec, Option.some.injEq] at hs; subst hs; exact ⟨_, rfl, rfl, h⟩

theorem resultsA_sh {s s' : St} (h : RSh k v s s') : ∀ (rs : List ARes), resultsA s' rs = (resultsA s rs).map (List.map (shA k))
  | [] => rfl
  | r :: rs => by
    have hr : resultA s' r = (resultA s r).map (shA k) := by
      cases r with
      | tmp j =>
        simp only [resultA, h.T, lget_sh]
        cases lget s.T j <;> rfl
      | cell j n agg =>
        simp only [resultA, h.T, h.L, lget_sh, cellsAt_sh h.H.get]
        cases cellsAt s.L s.H (lget s.T j) with
        | none => rfl
        | some cs => simp only [Option.map_some, asV_sh]
    simp only [resultsA, hr, resultsA_sh h rs]
    cases resultA s r <;> cases resultsA s rs <;> rfl
theorem oneOf_sh (l : List AV) : oneOf (l.map (shA k)) = shA k (oneOf l) := by
  match l with
  | [] => rfl
  | [a] => rfl
  | a :: b :: r => simp [oneOf, shA, shL_map]
theorem callN_sh {prog : Nat → Option AFunc} (hcl : ∀ g f, prog g = some f → clCode f.body = true) (k v : Nat) : ∀ n, CallSh k v (callN prog n)
  | 0 => fun g args H1 om p hp => by simp [callN] at hp
  | n + 1 => fun g args H1 om p hp H2 h => by
    have ih := callN_sh hcl k v n
    simp only [callN] at hp ⊢
    cases hg : prog g with
    | none => rw [hg] at hp; exact pseudo_sh h hp
    | some f =>
      rw [hg] at hp
      simp only [List.length_map]
      dsimp only at hp
      split at hp
      · rename_i hb
        rw [if_pos hb]
        have h0 : RSh k v (start args H1 om) (start (args.map (shA k)) H2 om) := ⟨by simp [start, Function.comp_def, shT], rfl, h, rfl⟩
        cases he : exec (callN prog n) n f.body (start args H1 om) with
        | none => rw [he] at hp; simp [finish] at hp
        | some r =>
          obtain ⟨e, s⟩ := r
          obtain ⟨⟨e', s'⟩, q1, q2, q3⟩ := exec_sh ih n (hcl g f hg) h0 he
          simp only at q2 q3
          subst q2
          rw [he] at hp
          rw [q1]
          have key : ∀ e : Ex, (∀ i, e ≠ .exit i) → finish f (some (e, s)) = some p → ∃ q, finish f (some (e, s')) = some q ∧ HRo k v p q := by
            intro e hne hp
            have e1 : ∀ s : St, finish f (some (e, s)) = match resultsA s f.results with
                | some l => if f.frz then some ((freezeAll s.H (oneOf l)).1, (freezeAll s.H (oneOf l)).2, s.om) else some (oneOf l, s.H, s.om)
                | none => none := by
              intro s
              cases e with
              | exit i => exact absurd rfl (hne i)
              | normal => rfl
              | ret => rfl
            rw [e1] at hp ⊢
            rw [resultsA_sh q3]
            cases hr : resultsA s f.results with
            | none => rw [hr] at hp; simp at hp
            | some l =>
              rw [hr] at hp
              simp only [Option.map_some]
              dsimp only at hp
              rw [oneOf_sh]
              obtain ⟨h1, h2⟩ := freezeAll_sh q3.H (oneOf l)
              split at hp
              · rename_i hz
                rw [if_pos hz]
                simp only [Option.some.injEq] at hp; subst hp
                exact ⟨_, rfl, h1, h2, q3.om⟩
              · rename_i hz
                rw [if_neg hz]
                simp only [Option.some.injEq] at hp; subst hp
                exact ⟨_, rfl, rfl, q3.H, q3.om⟩
          cases e with
          | exit i => simp [finish] at hp
          | normal => exact key .normal (by simp) hp
          | ret => exact key .ret (by simp) hp
      · simp at hp

/-! ### from the empty memory to any -/
/-- All places are below the next one. -/
def Heap.wf (H : Heap) : Prop := ∀ i, H.next ≤ i → H.get i = none
def wfB (H : Heap) : Bool := H.objs.all fun p => Nat.blt p.1 H.next
theorem wfB_wf {H : Heap} (h : wfB H = true) : H.wf := by
  intro i hi
  have key : ∀ (l : List (Nat × AObj)), (l.all fun p => Nat.blt p.1 H.next) = true → oget l i = none := by
    intro l
    induction l with
    | nil => intro _; rfl
    | cons p r ih =>
      intro h
      simp only [List.all_cons, Bool.and_eq_true, Nat.blt_eq] at h
      have : Nat.beq p.1 i = false := by
        cases hb : Nat.beq p.1 i with
        | false => rfl
        | true => have := Nat.eq_of_beq_eq_true hb; omega
      obtain ⟨j, o⟩ := p
      simp only [oget, this, Bool.false_eq_true, if_false]
      exact ih h.2
  exact key H.objs h
theorem HR.start {H : Heap} (h : H.wf) : HR H.next H.ver Heap.empty H := by
  refine ⟨fun i => ?_, by simp [Heap.empty], by simp [Heap.empty]⟩
  rw [h (i + H.next) (by omega)]
  rfl
theorem HR.wf {k v : Nat} {H1 H2 : Heap} (h : HR k v H1 H2) (hw : H1.wf) : H2.wf := by
  intro i hi
  have hn := h.next
  obtain ⟨j, rfl⟩ : ∃ j, i = j + k := ⟨i - k, by omega⟩
  rw [h.get, hw j (by omega)]; rfl
end
end Go.Am
