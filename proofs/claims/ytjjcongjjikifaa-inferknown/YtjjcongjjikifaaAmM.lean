/- More rounds, the same end. -/
import Derived.Test.YtjjcongjjikifaaAmA
set_option linter.unusedVariables false
namespace Go.Am

def CallLe (c c' : Caller) : Prop := ∀ g args h om r, c g args h om = some r → c' g args h om = some r
theorem opF_mono {c c' : Caller} (h : CallLe c c') {o : AOper} {T : List TV} {L : Boxes} {H : Heap} {om : List Nat} {r : TV × Boxes × Heap × List Nat} (hs : opF c o T L H om = some r) : opF c' o T L H om = some r := by
  unfold opF at hs ⊢
  split at hs
  · rename_i hw
    rw [if_pos hw]
    split at hs
    · split at hs
      · rename_i g as e1
        split at hs
        · rename_i e2
          rw [h _ _ _ _ _ e2]
          exact hs
        · simp at hs
      · simp at hs
    · exact hs
  · rename_i hw; rw [if_neg hw]; exact hs
theorem steps_mono {c c' : Caller} (h : CallLe c c') : ∀ {l : List AOper} {s r : St}, steps c l s = some r → steps c' l s = some r
  | [], s, r, hs => hs
  | o :: l, s, r, hs => by
    simp only [steps] at hs ⊢
    split at hs
    · rename_i s' e
      have : step c' o s = some s' := by
        unfold step at e ⊢
        split at e
        · rename_i e2; rw [opF_mono h e2]; exact e
        · simp at e
      rw [this]
      exact steps_mono h hs
    · simp at hs
theorem loopN_mono {f f' : St → Option (Ex × St)} (h : ∀ s r, f s = some r → f' s = some r) : ∀ {n m : Nat} (_ : n ≤ m) {s : St} {r : Ex × St}, loopN f n s = some r → loopN f' m s = some r
  | 0, m, _, s, r, hs => by simp [loopN] at hs
  | n + 1, m, hm, s, r, hs => by
    obtain ⟨m, rfl⟩ : ∃ j, m = j + 1 := ⟨m - 1, by omega⟩
    simp only [loopN] at hs ⊢
    cases e : f s with
    | none => rw [e] at hs; simp at hs
    | some q =>
      rw [e] at hs
      rw [h _ _ e]
      obtain ⟨x, t⟩ := q
      cases x with
      | normal => exact loopN_mono h (by omega) hs
      | exit i => exact hs
      | ret => exact hs
theorem exec_mono {c c' : Caller} (h : CallLe c c') {n m : Nat} (hm : n ≤ m) : ∀ {a : ACode} {s : St} {r : Ex × St}, exec c n a s = some r → exec c' m a s = some r := by
  intro a
  induction a with
  | skip => intro s r hs; exact hs
  | ops l d =>
    intro s r hs
    simp only [exec] at hs ⊢
    obtain ⟨t, e1, e2⟩ := Option.map_eq_some_iff.1 hs
    rw [steps_mono h e1, Option.map_some, e2]
  | frz ks => intro s r hs; exact hs
  | seq a b iha ihb =>
    intro s r hs
    simp only [exec] at hs ⊢
    cases e : exec c n a s with
    | none => rw [e] at hs; simp at hs
    | some q =>
      rw [e] at hs
      rw [iha e]
      obtain ⟨x, t⟩ := q
      cases x with
      | normal => exact ihb hs
      | exit i => exact hs
      | ret => exact hs
  | cond p a b iha ihb =>
    intro s r hs
    simp only [exec] at hs ⊢
    split at hs
    · exact iha hs
    · exact ihb hs
    · simp at hs
  | block i b ih =>
    intro s r hs
    simp only [exec] at hs ⊢
    cases e : exec c n b s with
    | none => rw [e] at hs; simp at hs
    | some q =>
      rw [e] at hs
      rw [ih e]
      exact hs
  | loop b ih =>
    intro s r hs
    simp only [exec] at hs ⊢
    exact loopN_mono (fun s r => ih) hm hs
  | exit i => intro s r hs; exact hs
  | ret => intro s r hs; exact hs
theorem callN_mono {prog : Nat → Option AFunc} : ∀ {n m : Nat} (_ : n ≤ m), CallLe (callN prog n) (callN prog m)
  | 0, m, _ => fun g args h om r hs => by simp [callN] at hs
  | n + 1, m, hm => fun g args h om r hs => by
    obtain ⟨m, rfl⟩ : ∃ j, m = j + 1 := ⟨m - 1, by omega⟩
    simp only [callN] at hs ⊢
    cases hg : prog g with
    | none => rw [hg] at hs; exact hs
    | some f =>
      rw [hg] at hs
      dsimp only at hs ⊢
      split at hs
      · rename_i hb
        rw [if_pos hb]
        cases e : exec (callN prog n) n f.body (start args h om) with
        | none => rw [e] at hs; simp [finish] at hs
        | some q =>
          rw [e] at hs
          rw [exec_mono (callN_mono (show n ≤ m by omega)) (by omega) e]
          exact hs
      · simp at hs
end Go.Am
