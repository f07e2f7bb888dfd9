/- Operations of the abstract machine that may change places. No program in sight. -/
import Derived.Test.YtjjcongjjikifaaAmE
set_option linter.unusedVariables false
set_option linter.unusedSimpArgs false
namespace Go.Am

/-! ### which slots an operation looks at -/
def AOpd.tmps : AOpd → List Nat
  | .t k => [k]
  | .c _ => []
def otmps : Option AOpd → List Nat
  | some x => x.tmps
  | none => []
def ltmps : List AOpd → List Nat
  | [] => []
  | x :: r => x.tmps ++ ltmps r
def ptmps : List (Nat × Nat × AOpd) → List Nat
  | [] => []
  | (_, _, x) :: r => x.tmps ++ ptmps r
def AOp.tmps : AOp → List Nat
  | .mv x => x.tmps
  | .pick c a b => c.tmps ++ (a.tmps ++ b.tmps)
  | .alloc _ _ => []
  | .box _ x => x.tmps
  | .build _ ps => ptmps ps
  | .bslice _ _ _ ps => ptmps ps
  | .load _ _ x => x.tmps
  | .loadS _ _ x => x.tmps
  | .store _ a x => a.tmps ++ x.tmps
  | .nilck x => x.tmps
  | .bin _ _ x y => x.tmps ++ y.tmps
  | .not x => x.tmps
  | .neg x => x.tmps
  | .bnot x => x.tmps
  | .cint _ x => x.tmps
  | .cstr x => x.tmps
  | .sbytes x => x.tmps
  | .bstr x => x.tmps
  | .faddr _ x => x.tmps
  | .field _ _ _ x => x.tmps
  | .iaddr _ _ x i => x.tmps ++ i.tmps
  | .index x i => x.tmps ++ i.tmps
  | .sliceS x lo hi => x.tmps ++ (otmps lo ++ otmps hi)
  | .sliceL _ x lo hi mx => x.tmps ++ (otmps lo ++ (otmps hi ++ otmps mx))
  | .sliceA _ _ x lo hi => x.tmps ++ (otmps lo ++ otmps hi)
  | .lookup _ _ _ m k => m.tmps ++ k.tmps
  | .mupd _ m k x => m.tmps ++ (k.tmps ++ x.tmps)
  | .ins _ m k x => m.tmps ++ (k.tmps ++ x.tmps)
  | .ment _ _ m k => m.tmps ++ k.tmps
  | .estore m s x => m.tmps ++ (s.tmps ++ x.tmps)
  | .mkmap => []
  | .mkslice _ _ _ l c => l.tmps ++ c.tmps
  | .mkfun _ a b => ltmps a ++ ltmps b
  | .extract _ x => x.tmps
  | .app _ _ _ s x => s.tmps ++ x.tmps
  | .appS _ _ _ s x => s.tmps ++ x.tmps
  | .clr _ _ x => x.tmps
  | .len _ x => x.tmps
  | .max xs => ltmps xs
  | .min xs => ltmps xs
  | .call f xs => f.tmps ++ ltmps xs
def gtmps : Option (Nat × Bool) → List Nat
  | some (k, _) => [k]
  | none => []
def AOper.tmps (o : AOper) : List Nat := o.op.tmps ++ gtmps o.guard

def Ag (T T' : List TV) (ks : List Nat) : Prop := ∀ k ∈ ks, lget T k = lget T' k
theorem Ag.left {T T' : List TV} {a b : List Nat} (h : Ag T T' (a ++ b)) : Ag T T' a := fun k hk => h k (by simp [hk])
theorem Ag.right {T T' : List TV} {a b : List Nat} (h : Ag T T' (a ++ b)) : Ag T T' b := fun k hk => h k (by simp [hk])
theorem ev_congr {T T' : List TV} {x : AOpd} (h : Ag T T' x.tmps) : ev T x = ev T' x := by
  cases x with
  | t k => exact h k (by simp [AOpd.tmps])
  | c a => rfl
theorem eva_congr {T T' : List TV} {x : AOpd} (h : Ag T T' x.tmps) : eva T x = eva T' x := by unfold eva; rw [ev_congr h]
theorem evo_congr {T T' : List TV} {x : Option AOpd} (h : Ag T T' (otmps x)) : evo T x = evo T' x := by
  cases x with
  | none => rfl
  | some x => simp only [evo, Option.map_some]; rw [ev_congr h]
theorem evas_congr {T T' : List TV} : ∀ {xs : List AOpd}, Ag T T' (ltmps xs) → evas T xs = evas T' xs
  | [], _ => rfl
  | x :: xs, h => by unfold evas; rw [eva_congr h.left, evas_congr h.right]
theorem fillA_congr {T T' : List TV} : ∀ {ps : List (Nat × Nat × AOpd)} {z : List AV}, Ag T T' (ptmps ps) → fillA T z ps = fillA T' z ps
  | [], _, _ => rfl
  | (off, n, x) :: ps, z, h => by
    have h1 : eva T x = eva T' x := eva_congr h.left
    have h2 : Ag T T' (ptmps ps) := h.right
    unfold fillA
    rw [h1]
    split
    · split
      · exact fillA_congr h2
      · rfl
    · rfl

theorem sem_congr {d : Option Nat} {p : AOp} {T T' : List TV} {L : Boxes} {H : Heap} (h : Ag T T' p.tmps) : p.sem d T L H = p.sem d T' L H := by
  cases p with
  | mv x => simp only [AOp.sem]; rw [ev_congr h]
  | pick c a b => simp only [AOp.sem]; rw [ev_congr h.left, ev_congr h.right.left, ev_congr h.right.right]
  | alloc p z => rfl
  | box p x => simp only [AOp.sem]; rw [eva_congr h]
  | build z ps => simp only [AOp.sem]; rw [fillA_congr h]
  | bslice hp n z ps => simp only [AOp.sem]; rw [fillA_congr h]
  | load g n x => simp only [AOp.sem]; rw [ev_congr h]
  | loadS g n x => simp only [AOp.sem]; rw [ev_congr h]
  | store n a x => simp only [AOp.sem]; rw [ev_congr h.left, eva_congr h.right]
  | nilck x => simp only [AOp.sem]; rw [ev_congr h]
  | bin ty op x y => simp only [AOp.sem]; rw [eva_congr h.left, eva_congr h.right]
  | not x => simp only [AOp.sem]; rw [ev_congr h]
  | neg x => simp only [AOp.sem]; rw [ev_congr h]
  | bnot x => simp only [AOp.sem]; rw [ev_congr h]
  | cint k x => simp only [AOp.sem]; rw [ev_congr h]
  | cstr x => simp only [AOp.sem]; rw [ev_congr h]
  | sbytes x => simp only [AOp.sem]; rw [ev_congr h]
  | bstr x => simp only [AOp.sem]; rw [eva_congr h]
  | faddr o x => simp only [AOp.sem]; rw [ev_congr h]
  | field g o n x => simp only [AOp.sem]; rw [ev_congr h]
  | iaddr arr e x i => simp only [AOp.sem]; rw [ev_congr h.left, ev_congr h.right]
  | index x i => simp only [AOp.sem]; rw [ev_congr h.left, ev_congr h.right]
  | sliceS x lo hi => simp only [AOp.sem]; rw [ev_congr h.left, evo_congr h.right.left, evo_congr h.right.right]
  | sliceL e x lo hi mx => simp only [AOp.sem]; rw [ev_congr h.left, evo_congr h.right.left, evo_congr h.right.right.left]
  | sliceA n e x lo hi => simp only [AOp.sem]; rw [ev_congr h.left, evo_congr h.right.left, evo_congr h.right.right]
  | lookup kt z ok m k => simp only [AOp.sem]; rw [eva_congr h.left, eva_congr h.right]
  | mupd kt m k x => simp only [AOp.sem]; rw [eva_congr h.left, eva_congr h.right.left, eva_congr h.right.right]
  | ins kt m k x => simp only [AOp.sem]; rw [eva_congr h.left, eva_congr h.right.left, eva_congr h.right.right]
  | ment kt z m k => simp only [AOp.sem]; rw [eva_congr h.left, eva_congr h.right]
  | estore m s x => simp only [AOp.sem]; rw [eva_congr h.left, ev_congr h.right.left, eva_congr h.right.right]
  | mkmap => rfl
  | mkslice e b z l c => simp only [AOp.sem]; rw [ev_congr h.left, ev_congr h.right]
  | mkfun g a b => simp only [AOp.sem]; rw [evas_congr h.left, evas_congr h.right]
  | extract i x => simp only [AOp.sem]; rw [ev_congr h]
  | app hp e b s x => simp only [AOp.sem]; rw [eva_congr h.left, eva_congr h.right]
  | appS hp e b s x => simp only [AOp.sem]; rw [eva_congr h.left, eva_congr h.right]
  | clr e z x => simp only [AOp.sem]; rw [ev_congr h]
  | len ty x => simp only [AOp.sem]; rw [ev_congr h]
  | max xs => simp only [AOp.sem]; rw [evas_congr h]
  | min xs => simp only [AOp.sem]; rw [evas_congr h]
  | call f xs => rfl

theorem semX_congr {o : AOper} {T T' : List TV} {L : Boxes} {H : Heap} (h : Ag T T' o.op.tmps) : semX o T L H = semX o T' L H := by
  unfold semX
  rw [sem_congr h]
  split
  · rfl
  · split
    · rename_i n a x k e1 e2
      rw [e1] at h
      have := ev_congr (show Ag T T' a.tmps from h.left)
      rw [this, sem_congr h]
    · exact sem_congr h
theorem opF_congr {call : Caller} {o : AOper} {T T' : List TV} {L : Boxes} {H : Heap} {om : List Nat} (h : Ag T T' o.tmps) : opF call o T L H om = opF call o T' L H om := by
  unfold opF
  have hg : wantedA T o.guard = wantedA T' o.guard := by
    have := h.right
    unfold wantedA
    split
    · rfl
    · rename_i k b e
      rw [e] at this
      rw [this k (by simp [gtmps])]
  rw [hg, semX_congr h.left]
  split
  · split
    · rename_i f xs e
      have h' : Ag T T' (f.tmps ++ ltmps xs) := by have := h.left; rw [e] at this; exact this
      have : callee T f xs = callee T' f xs := by unfold callee; rw [eva_congr h'.left, evas_congr h'.right]
      rw [this]
    · rfl
  · rfl

/-! ### classes -/
inductive Cl where
  | silent | read | box | eff | store
  deriving DecidableEq
def AOp.cl : AOp → Cl
  | .load _ _ _ | .loadS _ _ _ | .lookup _ _ _ _ _ | .bstr _ | .sliceA _ _ _ _ _ => .read
  | .len ty _ => if Nat.beq ty 2 then .read else .silent
  | .alloc p _ | .box p _ => if p then .box else .eff
  | .bslice hp _ _ _ => if hp then .eff else .silent
  | .store _ _ _ => .store
  | .mupd _ _ _ _ | .ins _ _ _ _ | .ment _ _ _ _ | .estore _ _ _ | .mkmap | .mkslice _ _ _ _ _ | .app _ _ _ _ _ | .appS _ _ _ _ _ | .clr _ _ _ | .call _ _ => .eff
  | _ => .silent
theorem cl_reads {p : AOp} (h : p.cl = .read) : p.reads = true := by
  cases p
  case len ty x =>
    simp only [AOp.cl] at h
    simp only [AOp.reads]
    cases hb : Nat.beq ty 2 with
    | true => rfl
    | false => rw [hb] at h; simp at h
  all_goals first | rfl | (simp only [AOp.cl, reduceCtorEq] at h; done) | (simp only [AOp.cl] at h; split at h <;> simp at h)
theorem cl_reads_not {p : AOp} (h : p.cl ≠ .read) : p.reads = false := by
  cases p
  case len ty x =>
    simp only [AOp.cl] at h
    simp only [AOp.reads]
    cases hb : Nat.beq ty 2 with
    | false => rfl
    | true => rw [hb] at h; simp at h
  all_goals first | rfl | exact absurd rfl h

theorem newBox_eff (d : Option Nat) (c : List AV) (L : Boxes) (H : Heap) : newBox L H d false c = some (.v (.ptr H.next 0), L, H.add (.cells c)) := rfl
theorem newBox_box (d : Nat) (c : List AV) (L : Boxes) (H : Heap) : newBox L H (some d) true c = some (.bx d (bmax (bget L d)) 0, bset L d ((bmax (bget L d), c) :: bget L d), H) := rfl

theorem silent_sem {p : AOp} (h : p.cl = .silent) (d : Option Nat) (T : List TV) : ∃ r : Option TV, ∀ L H, p.sem d T L H = r.map fun v => (v, L, H) := by
  have r1 : ∀ (o : Option AV), ∃ r : Option TV, ∀ (L : Boxes) (H : Heap), ret1 L H o = r.map fun v => (v, L, H) := fun o => ⟨o.map .v, fun L H => by cases o <;> rfl⟩
  have rn : ∃ r : Option TV, ∀ (L : Boxes) (H : Heap), (none : R) = r.map fun v => (v, L, H) := ⟨none, fun _ _ => rfl⟩
  have rs : ∀ v : TV, ∃ r : Option TV, ∀ (L : Boxes) (H : Heap), (some (v, L, H) : R) = r.map fun v => (v, L, H) := fun v => ⟨some v, fun _ _ => rfl⟩
  cases p <;> simp only [AOp.cl, reduceCtorEq] at h
  case alloc p z => cases p <;> simp at h
  case box p z => cases p <;> simp at h
  case bslice hp n z ps =>
    cases hp with
    | true => simp at h
    | false =>
      simp only [AOp.sem]
      split
      · exact rs _
      · exact rn
  case len ty x =>
    simp only [AOp.sem]
    split
    · exact rs _
    · exact rs _
    · exact rs _
    · simp at h
    · exact rs _
    · exact rn
  all_goals
    simp only [AOp.sem]
    repeat' split
    all_goals first | exact rs _ | exact rn | exact r1 _

theorem eff_sem {p : AOp} (h : p.cl = .eff) (d : Option Nat) (T : List TV) : ∃ f : Heap → Option (TV × Heap), ∀ L H, p.sem d T L H = (f H).map fun q => (q.1, L, q.2) := by
  cases p <;> simp only [AOp.cl, reduceCtorEq] at h
  case alloc p z => cases p with
    | true => simp at h
    | false => exact ⟨fun H => some (.v (.ptr H.next 0), H.add (.cells z)), fun L H => rfl⟩
  case box p x => cases p with
    | true => simp at h
    | false =>
      refine ⟨fun H => match eva T x with | some a => some (.v (.ptr H.next 0), H.add (.cells a.cells)) | none => none, fun L H => ?_⟩
      simp only [AOp.sem]
      split <;> simp_all [newBox]
  case bslice hp n z ps => cases hp with
    | false => simp at h
    | true =>
      refine ⟨fun H => match fillA T z ps with | some cs => if Nat.beq n 0 then none else some (.v (.sl H.next 0 n (cs.length / n)), H.add (.cells cs)) | none => none, fun L H => ?_⟩
      simp only [AOp.sem]
      split
      · rename_i cs e; simp only [e, if_true]; split <;> rfl
      · rename_i e; simp only [e]; rfl
  case len ty x => split at h <;> simp at h
  case mupd kt m k x =>
    refine ⟨fun H => (AOp.sem d (.mupd kt m k x) T .lf H).map fun q => (q.1, q.2.2), fun L H => ?_⟩
    simp only [AOp.sem]
    repeat' split
    all_goals rfl
  case ins kt m k x =>
    refine ⟨fun H => (AOp.sem d (.ins kt m k x) T .lf H).map fun q => (q.1, q.2.2), fun L H => ?_⟩
    simp only [AOp.sem]
    repeat' split
    all_goals rfl
  case ment kt z m k =>
    refine ⟨fun H => (AOp.sem d (.ment kt z m k) T .lf H).map fun q => (q.1, q.2.2), fun L H => ?_⟩
    simp only [AOp.sem]
    repeat' split
    all_goals rfl
  case estore m s x =>
    refine ⟨fun H => (AOp.sem d (.estore m s x) T .lf H).map fun q => (q.1, q.2.2), fun L H => ?_⟩
    simp only [AOp.sem]
    repeat' split
    all_goals rfl
  case mkmap => exact ⟨fun H => some (.v (.map H.next), H.add (.map [])), fun L H => rfl⟩
  case mkslice e b z l c =>
    refine ⟨fun H => (AOp.sem d (.mkslice e b z l c) T .lf H).map fun q => (q.1, q.2.2), fun L H => ?_⟩
    simp only [AOp.sem]
    repeat' split
    all_goals rfl
  case clr e z x =>
    refine ⟨fun H => (AOp.sem d (.clr e z x) T .lf H).map fun q => (q.1, q.2.2), fun L H => ?_⟩
    simp only [AOp.sem]
    repeat' split
    all_goals rfl
  case app hp e b s x =>
    refine ⟨fun H => (AOp.sem d (.app hp e b s x) T .lf H).map fun q => (q.1, q.2.2), fun L H => ?_⟩
    simp only [AOp.sem]
    repeat' split
    all_goals rfl
  case appS hp e b s x =>
    refine ⟨fun H => (AOp.sem d (.appS hp e b s x) T .lf H).map fun q => (q.1, q.2.2), fun L H => ?_⟩
    simp only [AOp.sem]
    repeat' split
    all_goals rfl
  case call f xs => exact ⟨fun _ => none, fun L H => rfl⟩

/-! ### lists that are set -/
theorem lset_comm : ∀ (T : List TV) (a b : Nat) (u v : TV), a ≠ b → lset (lset T a u) b v = lset (lset T b v) a u
  | [], 0, 0, _, _, h => absurd rfl h
  | [], 0, b + 1, u, v, h => by simp [lset]
  | [], a + 1, 0, u, v, h => by simp [lset]
  | [], a + 1, b + 1, u, v, h => by simp only [lset]; rw [lset_comm [] a b u v (by omega)]
  | _ :: _, 0, 0, _, _, h => absurd rfl h
  | x :: r, 0, b + 1, u, v, h => by simp [lset]
  | x :: r, a + 1, 0, u, v, h => by simp [lset]
  | x :: r, a + 1, b + 1, u, v, h => by simp only [lset]; rw [lset_comm r a b u v (by omega)]
theorem bset_comm (T : Boxes) (a b : Nat) (u v : List (Nat × List AV)) (h : a ≠ b) : bset (bset T a u) b v = bset (bset T b v) a u := by
  unfold bset
  rw [bsetF_fuel u (a + 1) (a + b + 1) T a (by omega) (by omega), bsetF_fuel v (b + 1) (a + b + 1) _ b (by omega) (by omega), bsetF_comm u v _ T a b (by omega) (by omega) h,
    bsetF_fuel v (b + 1) (a + b + 1) T b (by omega) (by omega), bsetF_fuel u (a + 1) (a + b + 1) _ a (by omega) (by omega)]
theorem bset_bset (T : Boxes) (a : Nat) (u v : List (Nat × List AV)) : bset (bset T a u) a v = bset T a v := bsetF_set u v (a + 1) T a (by omega)

theorem hideB_mem : ∀ (ks : List Nat) (L : Boxes) (k : Nat) (x : List (Nat × List AV)), k ∈ ks → hideB (bset L k x) ks = hideB L ks
  | [], _, _, _, h => by simp at h
  | j :: ks, L, k, x, h => by
    simp only [hideB]
    by_cases hj : k = j
    · subst hj; rw [bset_bset]
    · rw [bset_comm L k j x [] hj]
      exact hideB_mem ks _ k x (by simpa [hj] using h)
theorem hideB_not : ∀ (ks : List Nat) (L : Boxes) (k : Nat) (x : List (Nat × List AV)), k ∉ ks → hideB (bset L k x) ks = bset (hideB L ks) k x ∧ bget (hideB L ks) k = bget L k
  | [], _, _, _, h => ⟨rfl, rfl⟩
  | j :: ks, L, k, x, h => by
    simp only [List.mem_cons, not_or] at h
    simp only [hideB]
    rw [bset_comm L k j x [] h.1]
    obtain ⟨h1, h2⟩ := hideB_not ks (bset L j []) k x h.2
    refine ⟨h1, ?_⟩
    rw [h2, bget_bset, if_neg h.1]

theorem cellsAt_box {L : Boxes} {H : Heap} {t : TV} {cs c : List AV} {k : Nat} (h : cellsAt L H t = some cs) : cellsAt (bset L k ((bmax (bget L k), c) :: bget L k)) H t = some cs := by
  cases t with
  | v x => cases x <;> exact h
  | bx j g off =>
    simp only [cellsAt] at h ⊢
    rw [bget_bset]
    by_cases hj : j = k
    · subst hj
      rw [if_pos rfl]
      cases hg : bgen (bget L j) g with
      | none => simp [hg] at h
      | some c' =>
        have hlt := bgen_lt hg
        have : Nat.beq (bmax (bget L j)) g = false := by
          cases hb : Nat.beq (bmax (bget L j)) g with
          | false => rfl
          | true => have := Nat.eq_of_beq_eq_true hb; omega
        simp only [bgen, this, Bool.false_eq_true, if_false]
        exact h
    · rw [if_neg hj]; exact h
  | st => exact h
theorem read_box {d : Option Nat} {p : AOp} (hp : p.reads = true) {T : List TV} {L L' : Boxes} {H H' : Heap} {v : TV} {k : Nat} {c : List AV} (h : p.sem d T L H = some (v, L', H')) :
    ∃ L2 H2, p.sem d T (bset L k ((bmax (bget L k), c) :: bget L k)) H = some (v, L2, H2) := by
  cases p <;> simp only [AOp.reads, Bool.false_eq_true] at hp
  case load g n x =>
    simp only [AOp.sem] at h ⊢
    split at h
    · rename_i cs hc
      rw [cellsAt_box hc]
      simp only [ret1] at h ⊢
      cases hv : asV g n cs <;> simp_all
    · simp at h
  all_goals
    simp only [AOp.sem] at h ⊢
    repeat' split at h
    all_goals first | (simp at h; done) | (simp_all [ret1]; done) | skip
  all_goals (simp_all [ret1])
  all_goals (try (obtain ⟨y, h1, h2, _⟩ := h; exact ⟨_, _, y, h1, h2, rfl, rfl⟩))

/-! ### what an operation of a class comes to -/
section
variable {call : Caller} {o : AOper} (T : List TV)

theorem opF_plain (hc : ∀ f xs, o.op ≠ .call f xs) (L : Boxes) (H : Heap) (om : List Nat) : opF call o T L H om = if wantedA T o.guard then (semX o T L H).map (fun q => (q.1, q.2.1, q.2.2, om)) else some (.undef, L, H, om) := by
  unfold opF
  split
  · split
    · rename_i f xs e; exact absurd e (hc f xs)
    · cases semX o T L H <;> rfl
  · rfl

theorem semX_notread (h : o.op.reads = false) (hs : ∀ n a x, o.op ≠ .store n a x) (L : Boxes) (H : Heap) : semX o T L H = o.op.sem o.dst T L H := by
  unfold semX
  rw [if_neg (by simp [h])]
  split
  · rename_i n a x k e1 e2; exact absurd e1 (hs n a x)
  · rfl

theorem silent_spec (h : o.op.cl = .silent) : ∃ r : Option TV, ∀ L H om, opF call o T L H om = r.map fun v => (v, L, H, om) := by
  obtain ⟨r, hr⟩ := silent_sem h o.dst T
  have hc : ∀ f xs, o.op ≠ .call f xs := fun f xs e => by rw [e] at h; simp [AOp.cl] at h
  have hs : ∀ n a x, o.op ≠ .store n a x := fun n a x e => by rw [e] at h; simp [AOp.cl] at h
  refine ⟨if wantedA T o.guard then r else some .undef, fun L H om => ?_⟩
  rw [opF_plain T hc, semX_notread T (cl_reads_not (by simp [h])) hs, hr]
  split
  · cases r <;> rfl
  · rfl

theorem eff_spec (h : o.op.cl = .eff) : ∃ f : Heap → List Nat → Option (TV × Heap × List Nat), ∀ L H om, opF call o T L H om = (f H om).map fun q => (q.1, L, q.2) := by
  by_cases hc : ∃ f xs, o.op = .call f xs
  · obtain ⟨f, xs, hop⟩ := hc
    refine ⟨fun H om => if wantedA T o.guard then (match callee T f xs with | some (g, as) => (match call g as H om with | some (v, h, om') => some (.v v, { h with ver := h.ver + 1 }, om') | none => none) | none => none) else some (.undef, H, om), fun L H om => ?_⟩
    unfold opF
    split
    · split
      · rename_i f' xs' e
        rw [hop] at e; cases e
        split
        · split <;> simp_all
        · simp_all
      · rename_i e; exact absurd hop (e f xs)
    · rfl
  · have hc' : ∀ f xs, o.op ≠ .call f xs := fun f xs e => hc ⟨f, xs, e⟩
    have hs : ∀ n a x, o.op ≠ .store n a x := fun n a x e => by rw [e] at h; simp [AOp.cl] at h
    obtain ⟨f, hf⟩ := eff_sem h o.dst T
    refine ⟨fun H om => if wantedA T o.guard then (f H).map (fun q => (q.1, q.2, om)) else some (.undef, H, om), fun L H om => ?_⟩
    rw [opF_plain T hc', semX_notread T (cl_reads_not (by simp [h])) hs, hf]
    by_cases hw : wantedA T o.guard = true
    · simp only [hw, if_true]; cases f H <;> rfl
    · simp only [hw]; rfl

theorem box_spec (h : o.op.cl = .box) {d : Nat} (hd : o.dst = some d) : ∃ r : Option (Option (List AV)), ∀ L H om, opF call o T L H om = match r with
    | none => none
    | some none => some (.undef, L, H, om)
    | some (some c) => some (.bx d (bmax (bget L d)) 0, bset L d ((bmax (bget L d), c) :: bget L d), H, om) := by
  have hc : ∀ f xs, o.op ≠ .call f xs := fun f xs e => by rw [e] at h; simp [AOp.cl] at h
  have hs : ∀ n a x, o.op ≠ .store n a x := fun n a x e => by rw [e] at h; simp [AOp.cl] at h
  have key : ∃ r : Option (List AV), ∀ L H, o.op.sem o.dst T L H = r.map fun c => (.bx d (bmax (bget L d)) 0, bset L d ((bmax (bget L d), c) :: bget L d), H) := by
    rw [hd]
    generalize o.op = p at *
    cases p <;> simp only [AOp.cl, reduceCtorEq] at h
    case alloc p z => cases p with
      | false => simp at h
      | true => exact ⟨some z, fun L H => rfl⟩
    case box p x => cases p with
      | false => simp at h
      | true =>
        refine ⟨(eva T x).map AV.cells, fun L H => ?_⟩
        simp only [AOp.sem]
        split <;> simp_all [newBox]
    case bslice hp n z ps => cases hp <;> simp at h
    case len ty x => split at h <;> simp at h
  obtain ⟨r, hr⟩ := key
  refine ⟨if wantedA T o.guard then r.map some else some none, fun L H om => ?_⟩
  rw [opF_plain T hc, semX_notread T (cl_reads_not (by simp [h])) hs, hr]
  split
  · cases r <;> rfl
  · rfl

structure ReadF (o : AOper) (f : Boxes → Heap → Option TV) : Prop where
  nh : o.nh = true → ∀ L H H', f L H = f L H'
  hide : ∀ k ∈ o.hide, ∀ L x H, f (bset L k x) H = f L H
  box : ∀ L H v k c, f L H = some v → f (bset L k ((bmax (bget L k), c) :: bget L k)) H = some v
theorem read_spec (h : o.op.cl = .read) : ∃ f, ReadF o f ∧ ∀ L H om, opF call o T L H om = (f L H).map fun v => (v, L, H, om) := by
  have hc : ∀ f xs, o.op ≠ .call f xs := fun f xs e => by rw [e] at h; simp [AOp.cl] at h
  have hr := cl_reads h
  refine ⟨fun L H => if wantedA T o.guard then (o.op.sem o.dst T (hideB L o.hide) (if o.nh then Heap.empty else H)).map (·.1) else some .undef, ⟨fun hn L H H' => by simp [hn], fun k hk L x H => by simp only [hideB_mem _ _ _ _ hk], fun L H v k c hv => ?_⟩, fun L H om => ?_⟩
  · by_cases hw : wantedA T o.guard = true
    · simp only [hw, if_true] at hv ⊢
      by_cases hk : k ∈ o.hide
      · rw [hideB_mem _ _ _ _ hk]; exact hv
      · obtain ⟨e1, e2⟩ := hideB_not o.hide L k ((bmax (bget L k), c) :: bget L k) hk
        rw [e1, ← e2]
        generalize hH : (if o.nh = true then Heap.empty else H) = H0 at *
        cases hq : o.op.sem o.dst T (hideB L o.hide) H0 with
        | none => simp [hq] at hv
        | some q =>
          obtain ⟨v', L', H'⟩ := q
          simp [hq] at hv; subst hv
          obtain ⟨L2, H2, e3⟩ := read_box hr (k := k) (c := c) hq
          rw [e3]; rfl
    · simp only [hw] at hv ⊢; exact hv
  · rw [opF_plain T hc]
    split
    · unfold semX
      rw [if_pos hr]
      split <;> simp_all
    · rfl

theorem store_spec {n : Nat} {a x : AOpd} {k : Nat} (h : o.op = .store n a x) (hk : o.hide = [k]) : ∃ f : Boxes → Option (Option (List (Nat × List AV))), ∀ L H om, opF call o T L H om = match f L with
    | none => none
    | some none => some (.undef, L, H, om)
    | some (some c) => some (.undef, bset L k c, H, om) := by
  have hc : ∀ f xs, o.op ≠ .call f xs := fun f xs e => by rw [e] at h; cases h
  refine ⟨fun L => if wantedA T o.guard then (match ev T a, eva T x with
    | .bx k' g off, some v => if Nat.beq k' k then (match bgen (bget L k') g with
      | some c => if Nat.beq v.cells.length n && Nat.ble (off + n) c.length && v.cells.all AV.one then some (some (bput (bget L k') g (splice c off v.cells))) else none
      | none => none) else none
    | _, _ => none) else some none, fun L H om => ?_⟩
  rw [opF_plain T hc]
  by_cases hw : wantedA T o.guard = true
  · simp only [hw, if_true]
    unfold semX
    rw [h, hk]
    simp only [AOp.reads, Bool.false_eq_true, if_false, AOp.sem]
    split
    · rename_i k' g off e
      split
      · rename_i hkk
        have := Nat.eq_of_beq_eq_true hkk
        subst this
        simp only [e]
        cases eva T x with
        | none => simp
        | some v =>
          simp only []
          cases bgen (bget L k') g with
          | none => simp
          | some c => simp only []; split <;> simp_all
      · rename_i hkk
        simp only [e]
        cases eva T x with
        | none => rfl
        | some v => simp only [hkk]; rfl
    · rename_i hne
      split
      · rfl
      · rename_i heq
        split at heq
        · rename_i e _; exact absurd e (hne _ _ _)
        · simp at heq
      · rename_i c heq
        split at heq
        · rename_i e _; exact absurd e (hne _ _ _)
        · simp at heq
  · simp [hw]
end
end Go.Am
