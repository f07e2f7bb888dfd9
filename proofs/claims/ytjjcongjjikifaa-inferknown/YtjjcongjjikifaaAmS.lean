/- The interpreter once more, with each value worked out before it is laid down: the same results, sooner. -/
import Derived.Test.YtjjcongjjikifaaAmA
set_option linter.unusedVariables false
namespace Go.Am
universe u

def fNat {β : Type u} (n : Nat) (k : Nat → β) : β :=
  match n with
  | 0 => k 0
  | m + 1 => k (Nat.succ m)
theorem fNat_eq {β : Type u} (n : Nat) (k : Nat → β) : fNat n k = k n := by cases n <;> rfl
def fInt {β : Type u} (n : Int) (k : Int → β) : β :=
  match n with
  | .ofNat m => fNat m fun m' => k (.ofNat m')
  | .negSucc m => fNat m fun m' => k (.negSucc m')
theorem fInt_eq {β : Type u} (n : Int) (k : Int → β) : fInt n k = k n := by cases n <;> simp only [fInt, fNat_eq]
def fBool {β : Type u} (b : Bool) (k : Bool → β) : β :=
  match b with
  | true => k true
  | false => k false
theorem fBool_eq {β : Type u} (b : Bool) (k : Bool → β) : fBool b k = k b := by cases b <;> rfl
def fList {α : Type} {β : Type u} : List α → (List α → β) → β
  | [], k => k []
  | x :: r, k => fList r fun r' => k (x :: r')
theorem fList_eq {α : Type} {β : Type u} : ∀ (l : List α) (k : List α → β), fList l k = k l
  | [], k => rfl
  | x :: r, k => by simp only [fList]; rw [fList_eq r]
def fTk {β : Type u} (t : Tk) (k : Tk → β) : β :=
  match t with
  | .nil => k .nil
  | .no => k .no
  | .exact => k .exact
  | .live t e => fNat t fun t' => k (.live t' e)
theorem fTk_eq {β : Type u} (t : Tk) (k : Tk → β) : fTk t k = k t := by cases t <;> simp only [fTk, fNat_eq]
/-- A value's outside. -/
def fAV {β : Type u} (a : AV) (k : AV → β) : β :=
  match a with
  | .bool b => fBool b fun b' => k (.bool b')
  | .int kd n => fInt n fun n' => k (.int kd n')
  | .str s => fList s fun s' => k (.str s')
  | .nilp => k .nilp
  | .ptr i o => fNat i fun i' => fNat o fun o' => k (.ptr i' o')
  | .fp cs => fList cs fun cs' => k (.fp cs')
  | .sl i o l e => fNat i fun i' => fNat o fun o' => fNat l fun l' => fNat e fun e' => k (.sl i' o' l' e')
  | .pl cs l t => fList cs fun cs' => fNat l fun l' => fTk t fun t' => k (.pl cs' l' t')
  | .map i => fNat i fun i' => k (.map i')
  | .nilm => k .nilm
  | .func g a b => fList a fun a' => fList b fun b' => k (.func g a' b')
  | .nilf => k .nilf
  | .nili => k .nili
  | .agg cs => fList cs fun cs' => k (.agg cs')
  | .tup cs => fList cs fun cs' => k (.tup cs')
theorem fAV_eq {β : Type u} (a : AV) (k : AV → β) : fAV a k = k a := by cases a <;> simp only [fAV, fBool_eq, fInt_eq, fList_eq, fNat_eq, fTk_eq]
/-- Values, one by one. -/
def fAVs {β : Type u} : List AV → (List AV → β) → β
  | [], k => k []
  | x :: r, k => fAV x fun x' => fAVs r fun r' => k (x' :: r')
theorem fAVs_eq {β : Type u} : ∀ (l : List AV) (k : List AV → β), fAVs l k = k l
  | [], k => rfl
  | x :: r, k => by simp only [fAVs]; rw [fAV_eq, fAVs_eq r]
/-- A value, and what stands in it. -/
def fAV2 {β : Type u} (a : AV) (k : AV → β) : β :=
  match a with
  | .tup cs => fAVs cs fun cs' => k (.tup cs')
  | .agg cs => fAVs cs fun cs' => k (.agg cs')
  | a => fAV a k
theorem fAV2_eq {β : Type u} (a : AV) (k : AV → β) : fAV2 a k = k a := by
  cases a <;> simp only [fAV2, fAVs_eq, fAV_eq]
def fTV {β : Type u} (t : TV) (k : TV → β) : β :=
  match t with
  | .v a => fAV2 a fun a' => k (.v a')
  | .bx i g o => fNat i fun i' => fNat g fun g' => fNat o fun o' => k (.bx i' g' o')
  | .st i key ver ex => fNat i fun i' => fNat ver fun ver' => fBool ex fun ex' => fAV2 key fun key' => k (.st i' key' ver' ex')
theorem fTV_eq {β : Type u} (t : TV) (k : TV → β) : fTV t k = k t := by cases t <;> simp only [fTV, fAV2_eq, fNat_eq, fBool_eq]

def lsetF {β : Type u} : List TV → Nat → TV → (List TV → β) → β
  | [], 0, v, k => k [v]
  | [], n + 1, v, k => lsetF [] n v fun r => k (.undef :: r)
  | _ :: r, 0, v, k => k (v :: r)
  | x :: r, n + 1, v, k => lsetF r n v fun r' => k (x :: r')
theorem lsetF_eq {β : Type u} : ∀ (T : List TV) (n : Nat) (v : TV) (k : List TV → β), lsetF T n v k = k (lset T n v)
  | [], 0, v, k => rfl
  | [], n + 1, v, k => by simp only [lsetF, lset]; rw [lsetF_eq [] n v]
  | _ :: r, 0, v, k => rfl
  | x :: r, n + 1, v, k => by simp only [lsetF, lset]; rw [lsetF_eq r n v]
def putTF {β : Type u} (T : List TV) (d : Option Nat) (v : TV) (k : List TV → β) : β :=
  match d with
  | some n => fTV v fun v' => lsetF T n v' k
  | none => k T
theorem putTF_eq {β : Type u} (T : List TV) (d : Option Nat) (v : TV) (k : List TV → β) : putTF T d v k = k (putT T d v) := by
  cases d <;> simp only [putTF, putT, fTV_eq, lsetF_eq]

def fGen {β : Type u} : List (Nat × List AV) → (List (Nat × List AV) → β) → β
  | [], k => k []
  | (g, c) :: r, k => fNat g fun g' => fAVs c fun c' => fGen r fun r' => k ((g', c') :: r')
theorem fGen_eq {β : Type u} : ∀ (l : List (Nat × List AV)) (k : List (Nat × List AV) → β), fGen l k = k l
  | [], k => rfl
  | (g, c) :: r, k => by simp only [fGen]; rw [fNat_eq, fAVs_eq, fGen_eq r]
def fBoxes {β : Type u} : Boxes → (Boxes → β) → β
  | .lf, k => k .lf
  | .nd v l r, k => fGen v fun v' => fBoxes l fun l' => fBoxes r fun r' => k (.nd v' l' r')
theorem fBoxes_eq {β : Type u} : ∀ (t : Boxes) (k : Boxes → β), fBoxes t k = k t
  | .lf, k => rfl
  | .nd v l r, k => by simp only [fBoxes]; rw [fGen_eq, fBoxes_eq l, fBoxes_eq r]
def fEs {β : Type u} : List (AV × AV) → (List (AV × AV) → β) → β
  | [], k => k []
  | (a, b) :: r, k => fAV2 a fun a' => fAV2 b fun b' => fEs r fun r' => k ((a', b') :: r')
theorem fEs_eq {β : Type u} : ∀ (l : List (AV × AV)) (k : List (AV × AV) → β), fEs l k = k l
  | [], k => rfl
  | (a, b) :: r, k => by simp only [fEs]; rw [fAV2_eq, fAV2_eq, fEs_eq r]
def fObj {β : Type u} (o : AObj) (k : AObj → β) : β :=
  match o with
  | .cells c => fAVs c fun c' => k (.cells c')
  | .map es => fEs es fun es' => k (.map es')
  | .tok => k .tok
  | .iter m seen cnt => fAVs seen fun seen' => fNat cnt fun cnt' => k (.iter m seen' cnt')
theorem fObj_eq {β : Type u} (o : AObj) (k : AObj → β) : fObj o k = k o := by cases o <;> simp only [fObj, fAVs_eq, fEs_eq, fNat_eq]
/-- The list of objects: what stands in them has been worked out when it was laid down. -/
def fObjs {β : Type u} : List (Nat × AObj) → (List (Nat × AObj) → β) → β
  | [], k => k []
  | (i, o) :: r, k => fObjs r fun r' => k ((i, o) :: r')
theorem fObjs_eq {β : Type u} : ∀ (l : List (Nat × AObj)) (k : List (Nat × AObj) → β), fObjs l k = k l
  | [], k => rfl
  | (i, o) :: r, k => by simp only [fObjs]; rw [fObjs_eq r]
def fHeap {β : Type u} (h : Heap) (k : Heap → β) : β :=
  match h with
  | ⟨objs, next, ver⟩ => fObjs objs fun objs' => fNat next fun next' => fNat ver fun ver' => k ⟨objs', next', ver'⟩
theorem fHeap_eq {β : Type u} (h : Heap) (k : Heap → β) : fHeap h k = k h := by cases h; simp only [fHeap, fObjs_eq, fNat_eq]
/-- The newest object. -/
def fNew {β : Type u} (h : Heap) (k : Heap → β) : β :=
  match h with
  | ⟨(i, o) :: r, next, ver⟩ => fNat i fun i' => fObj o fun o' => k ⟨(i', o') :: r, next, ver⟩
  | h => k h
theorem fNew_eq {β : Type u} (h : Heap) (k : Heap → β) : fNew h k = k h := by
  obtain ⟨l, n, v⟩ := h
  cases l with
  | nil => rfl
  | cons p r => obtain ⟨i, o⟩ := p; simp only [fNew, fNat_eq, fObj_eq]
/-- One object. -/
def fAt {β : Type u} (id : Nat) (h : Heap) (k : Heap → β) : β :=
  match h.get id with
  | some o => fObj o fun o' => k { h with objs := oset h.objs id o' }
  | none => k h
theorem oset_same : ∀ (l : List (Nat × AObj)) (id : Nat) (o : AObj), oget l id = some o → oset l id o = l
  | [], _, _, h => by simp [oget] at h
  | (i, x) :: r, id, o, h => by
    unfold oget at h
    unfold oset
    cases hb : Nat.beq i id with
    | true => rw [hb] at h; simp at h; simp [h]
    | false => rw [hb] at h; simp at h; simp [oset_same r id o h]
theorem fAt_eq {β : Type u} (id : Nat) (h : Heap) (k : Heap → β) : fAt id h k = k h := by
  unfold fAt
  cases hg : h.get id with
  | none => rfl
  | some o => dsimp only; rw [fObj_eq, oset_same _ _ _ hg]
/-- The newest object's outside. -/
def fNewS {β : Type u} (h : Heap) (k : Heap → β) : β :=
  match h with
  | ⟨(i, .cells c) :: r, next, ver⟩ => fNat i fun i' => fList c fun c' => k ⟨(i', .cells c') :: r, next, ver⟩
  | h => k h
theorem fNewS_eq {β : Type u} (h : Heap) (k : Heap → β) : fNewS h k = k h := by
  obtain ⟨l, n, v⟩ := h
  cases l with
  | nil => rfl
  | cons p r =>
    obtain ⟨i, o⟩ := p
    cases o <;> simp only [fNewS, fNat_eq, fList_eq]
/-- A list of pairs. -/
def fPs {β : Type u} : List (AV × AV) → (List (AV × AV) → β) → β
  | [], k => k []
  | (a, b) :: r, k => fPs r fun r' => k ((a, b) :: r')
theorem fPs_eq {β : Type u} : ∀ (l : List (AV × AV)) (k : List (AV × AV) → β), fPs l k = k l
  | [], k => rfl
  | (a, b) :: r, k => by simp only [fPs]; rw [fPs_eq r]
end Go.Am
