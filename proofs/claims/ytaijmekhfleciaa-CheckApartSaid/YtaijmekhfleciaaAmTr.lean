/- What holds of each entry of a table holds of what it answers. -/
import Derived.Test.YtaijmekhfleciaaAmFun
set_option linter.unusedVariables false
namespace Go.Proofs.Ytaijmekhfleciaa.Am
open Go
def allT {α : Type} : Tr α → (Nat → α → Prop) → Prop
  | .nil, _ => True
  | .nd v l r, p => (∀ x, v = some x → p 0 x) ∧ allT l (fun k => p (2 * k + 1)) ∧ allT r (fun k => p (2 * k + 2))
theorem allT_get {α : Type} : ∀ (t : Tr α) (p : Nat → α → Prop), allT t p → ∀ (k : Nat) (x : α), t.get k = some x → p k x
  | .nil, p, _, k, x, h => by rw [get_nil] at h; exact absurd h (by simp)
  | .nd v l r, p, ⟨h0, h1, h2⟩, k, x, h => by
    rw [get_nd] at h
    rcases key_cases k with rfl | ⟨hk, hk2⟩ | ⟨hk, hk2⟩
    · exact h0 x h
    · rw [beq0 hk, show Nat.beq (k % 2) 1 = true by rw [hk2]; rfl] at h
      have := allT_get l _ h1 (k / 2) x h
      rwa [show 2 * (k / 2) + 1 = k by omega] at this
    · rw [beq0 hk, show Nat.beq (k % 2) 1 = false by rw [hk2]; rfl] at h
      have := allT_get r _ h2 (k / 2 - 1) x h
      rwa [show 2 * (k / 2 - 1) + 2 = k by omega] at this
theorem some_of {α : Type} {p : α → Prop} {y : α} (h : p y) : ∀ x, some y = some x → p x := fun x e => by injection e with e; exact e ▸ h
theorem none_of {α : Type} {p : α → Prop} : ∀ x, none = some x → p x := fun x e => by injection e
/-- A run that answers true. -/
def isTrue : Option (AV × HS) → Bool
  | some (.r (.v (.b true)), _) => true
  | _ => false
theorem isTrue_eq {o : Option (AV × HS)} (h : isTrue o = true) : ∃ h', o = some (.r (.v (.b true)), h') := by
  unfold isTrue at h
  split at h
  · exact ⟨_, rfl⟩
  · exact absurd h (by simp)
end Go.Proofs.Ytaijmekhfleciaa.Am
