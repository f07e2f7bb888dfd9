/- The interpreter once more, with each value worked out before it is laid down: the same results, sooner. -/
import Derived.Test.YthobghcnjampjaaAmA
set_option linter.unusedVariables false
namespace Go.Am
universe u

def fNat {β : Type u} (n : Nat) (k : Nat → β) : β :=
  match n with
  | 0 => k 0
  | m + 1 => k (Nat.succ m)
theorem fNat_eq {β : Type u} (n : Nat) (k : Nat → β) : fNat n k = k n := by cases n <;> rfl
def fInt {β : Type u} (n : Int) (k : Int → β) : β :=
  match n with
  | .ofNat m => fNat m fun m' => k (.ofNat m')
  | .negSucc m => fNat m fun m' => k (.negSucc m')
theorem fInt_eq {β : Type u} (n : Int) (k : Int → β) : fInt n k = k n := by cases n <;> simp only [fInt, fNat_eq]
def fBool {β : Type u} (b : Bool) (k : Bool → β) : β :=
  match b with
  | true => k true
  | false => k false
theorem fBool_eq {β : Type u} (b : Bool) (k : Bool → β) : fBool b k = k b := by cases b <;> rfl
def fList {α : Type} {β : Type u} : List α → (List α → β) → β
  | [], k => k []
  | x :: r, k => fList r fun r' => k (x :: r')
theorem fList_eq {α : Type} {β : Type u} : ∀ (l : List α) (k : List α → β), fList l k = k l
  | [], k => rfl
  | x :: r, k => by simp only [fList]; rw [fList_eq r]
def fTk {β : Type u} (t : Tk) (k : Tk → β) : β :=
  match t with
  | .nil => k .nil
  | .no => k .no
  | .exact => k .exact
  | .live t e => fNat t fun t' => k (.live t' e)
theorem fTk_eq {β : Type u} (t : Tk) (k : Tk → β) : fTk t k = k t := by cases t <;> simp only [fTk, fNat_eq]
/-- A value's outside. -/
def fAV {β : Type u} (a : AV) (k : AV → β) : β :=
  match a with
  | .bool b => fBool b fun b' => k (.bool b')
  | .int kd n => fInt n fun n' => k (.int kd n')
  | .str s => fList s fun s' => k (.str s')
  | .nilp => k .nilp
  | .ptr i o => fNat i fun i' => fNat o fun o' => k (.ptr i' o')
  | .fp cs => fList cs fun cs' => k (.fp cs')
  | .sl i o l e => fNat i fun i' => fNat o fun o' => fNat l fun l' => fNat e fun e' => k (.sl i' o' l' e')
  | .pl cs l t => fList cs fun cs' => fNat l fun l' => fTk t fun t' => k (.pl cs' l' t')
  | .map i => fNat i fun i' => k (.map i')
  | .nilm => k .nilm
  | .func g a b => fList a fun a' => fList b fun b' => k (.func g a' b')
  | .nilf => k .nilf
  | .nili => k .nili
  | .agg cs => fList cs fun cs' => k (.agg cs')
  | .tup cs => fList cs fun cs' => k (.tup cs')
theorem fAV_eq {β : Type u} (a : AV) (k : AV → β) : fAV a k = k a := by cases a <;> simp only [fAV, fBool_eq, fInt_eq, fList_eq, fNat_eq, fTk_eq]
/-- Values, one by one. -/
def fAVs {β : Type u} : List AV → (List AV → β) → β
  | [], k => k []
  | x :: r, k => fAV x fun x' => fAVs r fun r' => k (x' :: r')
theorem fAVs_eq {β : Type u} : ∀ (l : List AV) (k : List AV → β), fAVs l k = k l
  | [], k => rfl
  | x :: r, k => by simp only [fAVs]; rw [fAV_eq, fAVs_eq r]
/-- A value, and what stands in it. -/
def fAV2 {β : Type u} (a : AV) (k : AV → β) : β :=
  match a with
  | .tup cs => fAVs cs fun cs' => k (.tup cs')
  | .agg cs => fAVs cs fun cs' => k (.agg cs')
  | .pl cs l t => fAVs cs fun cs' => fNat l fun l' => fTk t fun t' => k (.pl cs' l' t')
  | a => fAV a k
theorem fAV2_eq {β : Type u} (a : AV) (k : AV → β) : fAV2 a k = k a := by
  cases a <;> simp only [fAV2, fAVs_eq, fNat_eq, fTk_eq, fAV_eq]
def fTV {β : Type u} (t : TV) (k : TV → β) : β :=
  match t with
  | .v a => fAV2 a fun a' => k (.v a')
  | .bx i g o => fNat i fun i' => fNat g fun g' => fNat o fun o' => k (.bx i' g' o')
  | .st i key ver ex => fNat i fun i' => fNat ver fun ver' => fBool ex fun ex' => fAV2 key fun key' => k (.st i' key' ver' ex')
theorem fTV_eq {β : Type u} (t : TV) (k : TV → β) : fTV t k = k t := by cases t <;> simp only [fTV, fAV2_eq, fNat_eq, fBool_eq]

def lsetF {β : Type u} : List TV → Nat → TV → (List TV → β) → β
  | [], 0, v, k => k [v]
  | [], n + 1, v, k => lsetF [] n v fun r => k (.undef :: r)
  | _ :: r, 0, v, k => k (v :: r)
  | x :: r, n + 1, v, k => lsetF r n v fun r' => k (x :: r')
theorem lsetF_eq {β : Type u} : ∀ (T : List TV) (n : Nat) (v : TV) (k : List TV → β), lsetF T n v k = k (lset T n v)
  | [], 0, v, k => rfl
  | [], n + 1, v, k => by simp only [lsetF, lset]; rw [lsetF_eq [] n v]
  | _ :: r, 0, v, k => rfl
  | x :: r, n + 1, v, k => by simp only [lsetF, lset]; rw [lsetF_eq r n v]
def putTF {β : Type u} (T : List TV) (d : Option Nat) (v : TV) (k : List TV → β) : β :=
  match d with
  | some n => fTV v fun v' => lsetF T n v' k
  | none => k T
theorem putTF_eq {β : Type u} (T : List TV) (d : Option Nat) (v : TV) (k : List TV → β) : putTF T d v k = k (putT T d v) := by
  cases d <;> simp only [putTF, putT, fTV_eq, lsetF_eq]

def fGen {β : Type u} : List (Nat × List AV) → (List (Nat × List AV) → β) → β
  | [], k => k []
  | (g, c) :: r, k => fNat g fun g' => fAVs c fun c' => fGen r fun r' => k ((g', c') :: r')
theorem fGen_eq {β : Type u} : ∀ (l : List (Nat × List AV)) (k : List (Nat × List AV) → β), fGen l k = k l
  | [], k => rfl
  | (g, c) :: r, k => by simp only [fGen]; rw [fNat_eq, fAVs_eq, fGen_eq r]
def fBoxes {β : Type u} : Boxes → (Boxes → β) → β
  | .lf, k => k .lf
  | .nd v l r, k => fGen v fun v' => fBoxes l fun l' => fBoxes r fun r' => k (.nd v' l' r')
theorem fBoxes_eq {β : Type u} : ∀ (t : Boxes) (k : Boxes → β), fBoxes t k = k t
  | .lf, k => rfl
  | .nd v l r, k => by simp only [fBoxes]; rw [fGen_eq, fBoxes_eq l, fBoxes_eq r]
def fEs {β : Type u} : List (AV × AV) → (List (AV × AV) → β) → β
  | [], k => k []
  | (a, b) :: r, k => fAV2 a fun a' => fAV2 b fun b' => fEs r fun r' => k ((a', b') :: r')
theorem fEs_eq {β : Type u} : ∀ (l : List (AV × AV)) (k : List (AV × AV) → β), fEs l k = k l
  | [], k => rfl
  | (a, b) :: r, k => by simp only [fEs]; rw [fAV2_eq, fAV2_eq, fEs_eq r]
def fObj {β : Type u} (o : AObj) (k : AObj → β) : β :=
  match o with
  | .cells c => fAVs c fun c' => k (.cells c')
  | .map es => fEs es fun es' => k (.map es')
  | .tok => k .tok
theorem fObj_eq {β : Type u} (o : AObj) (k : AObj → β) : fObj o k = k o := by cases o <;> simp only [fObj, fAVs_eq, fEs_eq]
def fObjs {β : Type u} : List (Nat × AObj) → (List (Nat × AObj) → β) → β
  | [], k => k []
  | (i, o) :: r, k => fNat i fun i' => fObj o fun o' => fObjs r fun r' => k ((i', o') :: r')
theorem fObjs_eq {β : Type u} : ∀ (l : List (Nat × AObj)) (k : List (Nat × AObj) → β), fObjs l k = k l
  | [], k => rfl
  | (i, o) :: r, k => by simp only [fObjs]; rw [fNat_eq, fObj_eq, fObjs_eq r]
def fHeap {β : Type u} (h : Heap) (k : Heap → β) : β :=
  match h with
  | ⟨objs, next, ver⟩ => fObjs objs fun objs' => fNat next fun next' => fNat ver fun ver' => k ⟨objs', next', ver'⟩
theorem fHeap_eq {β : Type u} (h : Heap) (k : Heap → β) : fHeap h k = k h := by cases h; simp only [fHeap, fObjs_eq, fNat_eq]

/-- Does an operation leave the memory, and the frame's variables, as they are? -/
def AOp.stillH : AOp → Bool
  | .alloc p _ | .box p _ => p
  | .bslice hp _ _ _ => !hp
  | .store _ _ _ | .mupd _ _ _ _ | .ins _ _ _ _ | .ment _ _ _ _ | .estore _ _ _ | .mkmap | .mkslice _ _ _ _ _ | .app _ _ _ _ _ | .clr _ _ _ | .call _ _ => false
  | _ => true
def AOp.stillL : AOp → Bool
  | .alloc p _ | .box p _ => !p
  | .store _ _ _ => false
  | _ => true

def stepS {β : Type u} (call : Caller) (o : AOper) (s : St) (none' : β) (k : St → β) : β :=
  match opF call o s.T s.L s.H s.om with
  | some (v, L, h, om) => putTF s.T o.dst v fun T' =>
    (if o.op.stillL then fun q => q L else fBoxes L) fun L' =>
    (if o.op.stillH then fun q => q h else fHeap h) fun h' => k ⟨T', L', h', om⟩
  | none => none'
theorem stepS_eq {β : Type u} (call : Caller) (o : AOper) (s : St) (none' : β) (k : St → β) : stepS call o s none' k = match step call o s with | some s' => k s' | none => none' := by
  unfold stepS step
  cases opF call o s.T s.L s.H s.om with
  | none => rfl
  | some q =>
    obtain ⟨v, L, h, om⟩ := q
    dsimp only
    rw [putTF_eq]
    cases o.op.stillL <;> cases o.op.stillH <;> simp only [fBoxes_eq, fHeap_eq, if_true, if_false, Bool.false_eq_true]

def stepsS {β : Type u} (call : Caller) : List AOper → St → β → (St → β) → β
  | [], s, _, k => k s
  | o :: r, s, none', k => stepS call o s none' fun s' => stepsS call r s' none' k
theorem stepsS_eq {β : Type u} (call : Caller) : ∀ (l : List AOper) (s : St) (none' : β) (k : St → β), stepsS call l s none' k = match steps call l s with | some s' => k s' | none => none'
  | [], s, none', k => rfl
  | o :: r, s, none', k => by
    simp only [stepsS, steps]
    rw [stepS_eq]
    cases step call o s with
    | none => rfl
    | some s' => dsimp only; rw [stepsS_eq call r s']

def loopS (body : St → Option (Ex × St)) : Nat → St → Option (Ex × St) := loopN body

def execS (call : Caller) (n : Nat) : ACode → St → Option (Ex × St)
  | .skip, s => some (.normal, s)
  | .ops l _, s => stepsS call l s none fun s' => some (.normal, s')
  | .frz ks, s => match frzT s ks with
    | some s' => fHeap s'.H fun h => fList s'.T fun t => some (.normal, ⟨t, s'.L, h, s'.om⟩)
    | none => none
  | .seq a b, s => match execS call n a s with
    | some (.normal, s') => execS call n b s'
    | r => r
  | .cond c a b, s => match ev s.T c with
    | .v (.bool true) => execS call n a s
    | .v (.bool false) => execS call n b s
    | _ => none
  | .block id b, s => match execS call n b s with
    | some (.exit i, s') => if Nat.beq i id then some (.normal, s') else some (.exit i, s')
    | r => r
  | .loop b, s => loopN (execS call n b) n s
  | .exit id, s => some (.exit id, s)
  | .ret, s => some (.ret, s)
theorem execS_eq (call : Caller) (n : Nat) : ∀ (c : ACode), execS call n c = exec call n c := by
  intro c
  induction c with
  | skip => rfl
  | ops l d => funext s; simp only [execS, exec]; rw [stepsS_eq]; cases steps call l s <;> rfl
  | frz ks => funext s; simp only [execS, exec]; cases frzT s ks <;> simp [fHeap_eq, fList_eq]
  | seq a b iha ihb =>
    funext s; simp only [execS, exec, iha, ihb]
    cases exec call n a s with
    | none => rfl
    | some q => obtain ⟨e, s'⟩ := q; cases e <;> rfl
  | cond c a b iha ihb =>
    funext s; simp only [execS, exec, iha, ihb]
    cases ev s.T c with
    | v a => cases a <;> first | rfl | (rename_i b; cases b <;> rfl)
    | bx => rfl
    | st => rfl
  | block i b ih =>
    funext s; simp only [execS, exec, ih]
    cases exec call n b s with
    | none => rfl
    | some q => obtain ⟨e, s'⟩ := q; cases e <;> rfl
  | loop b ih => funext s; simp only [execS, exec, ih]
  | exit i => rfl
  | ret => rfl

def callS (prog : Nat → Option AFunc) : Nat → Caller
  | 0 => fun _ _ _ _ => none
  | n + 1 => fun g args h om => match prog g with
    | some f => if Nat.beq args.length f.np then fAVs args fun as => match finish f (execS (callS prog n) n f.body (start as h om)) with
        | some (v, h', om') => fAV2 v fun v' => fHeap h' fun h'' => some (v', h'', om')
        | none => none
      else none
    | none => none
theorem callS_eq (prog : Nat → Option AFunc) : ∀ n, callS prog n = callN prog n
  | 0 => rfl
  | n + 1 => by
    funext g args h om
    simp only [callS, callN]
    cases prog g with
    | none => rfl
    | some f =>
      dsimp only
      rw [execS_eq, callS_eq prog n, fAVs_eq]
      cases finish f (exec (callN prog n) n f.body (start args h om)) with
      | none => rfl
      | some q => obtain ⟨v, h', om'⟩ := q; dsimp only; rw [fAV2_eq, fHeap_eq]
end Go.Am
