/- A step on a part of the heap is one on the whole. -/
import Derived.Test.YtaijmekhfleciaaAmReg
set_option linter.unusedVariables false
set_option linter.unusedSimpArgs false
namespace Go.Proofs.Ytaijmekhfleciaa.Am
open Go
section
variable {g g' G G' g'' : Nat → Option Blk} {ρ ρ' ρ'' : Rho} {w w' w'' : World} {lo hi lo' hi' : Nat}
theorem Stp.wide (h : Stp g ρ w g' ρ' w' lo hi) (h1 : lo' ≤ lo) (h2 : hi ≤ hi') : Stp g ρ w g' ρ' w' lo' hi' :=
  { h with dom := fun id hid => h.dom id (by omega) }
/-- One step behind the other, of the same numbers. -/
theorem Stp.tran (h : Stp g ρ w g' ρ' w' lo hi) (k : Stp g' ρ' w' g'' ρ'' w'' lo hi) : Stp g ρ w g'' ρ'' w'' lo hi := by
  refine ⟨h.ext.trans k.ext, fun id hid => (k.dom id hid).trans (h.dom id hid), k.rb, Nat.le_trans h.size k.size, k.os.trans h.os, k.tape.trans h.tape, k.output.trans h.output, fun j hj ho => ?_, fun id b x e o r hx => ?_, fun id b e o => h.ro _ _ (k.ro _ _ e o) o⟩
  · refine (k.keep j (Nat.lt_of_lt_of_le hj h.size) fun id b x e o r hxj => ?_).trans (h.keep j hj ho)
    obtain ⟨id0, b0, x0, e0, o0, r0, hx0⟩ := h.img id b x e o r (by omega)
    exact ho id0 b0 x0 e0 o0 r0 (by omega)
  · obtain ⟨id1, b1, x1, e1, o1, r1, hx1⟩ := k.img id b x e o r (Nat.lt_of_lt_of_le hx h.size)
    obtain ⟨id0, b0, x0, e0, o0, r0, hx0⟩ := h.img id1 b1 x1 e1 o1 r1 (by omega)
    exact ⟨id0, b0, x0, e0, o0, r0, by omega⟩
/-- What lies beside the part that is stepped on stays. -/
theorem Stp.over (h : Stp g ρ w g' ρ' w' lo hi) (hG : RB G ρ w) (hsub : ∀ id b, g id = some b → G id = some b) (hG' : ∀ id b, G' id = some b → g' id = some b ∨ (G id = some b ∧ g id = none)) : Stp G ρ w G' ρ' w' lo hi := by
  have apart : ∀ {id b x}, G id = some b → g id = none → ρ id = some x → ∀ id0 b0 x0, g id0 = some b0 → b0.own = true → ρ id0 = some x0 → x0.1 ≠ x.1 := by
    intro id b x e n r id0 b0 x0 e0 o0 r0
    exact hG.excl id0 id b0 b x0 x (hsub _ _ e0) o0 e r0 r (fun hid => by subst hid; rw [n] at e0; exact absurd e0 (by simp))
  have lt : ∀ {id b x}, G id = some b → ρ id = some x → x.1 < w.heap.size := by
    intro id b x e r
    obtain ⟨cb, base, tot, r', hb⟩ := hG.blk id b e
    rw [r] at r'; injection r' with r'; subst r'
    exact hb.lt
  have rho : ∀ {id b x}, G id = some b → ρ' id = some x → ρ id = some x := by
    intro id b x e r
    obtain ⟨cb, base, tot, r', _⟩ := hG.blk id b e
    have := h.ext _ _ r'
    rw [r] at this; injection this with this; subst this
    exact r'
  -- an own block of the part's, and another beside it
  have pair : ∀ {id b x id' b' x'}, g' id = some b → b.own = true → ρ' id = some x → G id' = some b' → g id' = none → ρ id' = some x' → x.1 ≠ x'.1 := by
    intro id b x id' b' x' e o r e' n' r' heq
    have hlt := lt e' r'
    obtain ⟨id0, b0, x0, e0, o0, r0, hx0⟩ := h.img id b x e o r (by omega)
    exact apart e' n' r' id0 b0 x0 e0 o0 r0 (by omega)
  refine ⟨h.ext, h.dom, ⟨fun id b e => ?_, fun id id' b b' x x' e o e' r r' hne => ?_⟩, h.size, h.os, h.tape, h.output, fun k hk ho => ?_, fun id b x e o r hx => ?_, fun id b e o => ?_⟩
  · rcases hG' id b e with e1 | ⟨e1, n1⟩
    · exact h.rb.blk id b e1
    · obtain ⟨cb, base, tot, r, hb⟩ := hG.blk id b e1
      exact ⟨cb, base, tot, h.ext _ _ r, (hb.mono h.ext).of_heap (h.keep cb hb.lt fun id0 b0 x0 e0 o0 r0 => apart e1 n1 r id0 b0 x0 e0 o0 r0)⟩
  · rcases hG' id b e with e1 | ⟨e1, n1⟩
    · rcases hG' id' b' e' with e2 | ⟨e2, n2⟩
      · exact h.rb.excl id id' b b' x x' e1 o e2 r r' hne
      · exact pair e1 o r e2 n2 (rho e2 r')
    · have r1 := rho e1 r
      rcases hG' id' b' e' with e2 | ⟨e2, n2⟩
      · cases ho : b'.own with
        | true => exact (pair e2 ho r' e1 n1 r1).symm
        | false =>
          have e3 := hsub _ _ (h.ro _ _ e2 ho)
          exact hG.excl id id' b b' x x' e1 o e3 r1 (rho e3 r') hne
      · exact hG.excl id id' b b' x x' e1 o e2 r1 (rho e2 r') hne
  · exact h.keep k hk fun id b x e o r => ho id b x (hsub _ _ e) o r
  · rcases hG' id b e with e1 | ⟨e1, n1⟩
    · obtain ⟨id0, b0, x0, e0, o0, r0, hx0⟩ := h.img id b x e1 o r hx
      exact ⟨id0, b0, x0, hsub _ _ e0, o0, r0, hx0⟩
    · exact ⟨id, b, x, e1, o, rho e1 r, rfl⟩
  · rcases hG' id b e with e1 | ⟨e1, n1⟩
    · exact hsub _ _ (h.ro _ _ e1 o)
    · exact e1
theorem Stp.eq (h : Stp g ρ w g' ρ' w' lo hi) (e : ∀ id, G' id = g' id) : Stp g ρ w G' ρ' w' lo hi := by
  rw [show G' = g' from funext e]; exact h
end
theorem AS.same_eq {a b : AS} (h : a.same b = true) : a = b := by
  have ppe : ∀ {l m : List (Nat × Nat)}, pairsEq l m = true → l = m := by
    intro l
    induction l with
    | nil => intro m h; cases m with
      | nil => rfl
      | cons p m => exact absurd h (by simp [pairsEq])
    | cons p l ih =>
      intro m h
      cases m with
      | nil => exact absurd h (by simp [pairsEq])
      | cons q m =>
        obtain ⟨p1, p2⟩ := p
        obtain ⟨q1, q2⟩ := q
        simp only [pairsEq, Bool.and_eq_true, natBeq, decide_eq_true_eq] at h
        obtain ⟨h1, h2, h3⟩ := h
        rw [h1, h2, ih h3]
  have ope : ∀ {l m : Option Nat}, optEq l m = true → l = m := by
    intro l m h
    cases l <;> cases m <;> simp [optEq, natBeq] at h ⊢
    exact h
  cases a <;> cases b <;> simp only [AS.same, Bool.and_eq_true, natBeq, decide_eq_true_eq, Bool.false_eq_true, beq_iff_eq] at h
  all_goals first
    | rfl
    | (rw [h]; done)
    | skip
  · obtain ⟨h1, h2⟩ := h
    rw [intEq_iff, decide_eq_true_eq] at h2
    rw [kindEq_eq h1, h2]
  · rw [h.1, h.2]
  · obtain ⟨h1, h2, h3, h4, h5⟩ := h
    rw [h1, h2, h3, ope h4, h5]
  · obtain ⟨h1, h2, h3⟩ := h
    rw [h1, ppe h2, ppe h3]
theorem listSame_eq : ∀ {l m : List AS}, listSame l m = true → l = m
  | [], [], _ => rfl
  | a :: l, b :: m, h => by
    simp only [listSame, Bool.and_eq_true] at h
    rw [AS.same_eq h.1, listSame_eq h.2]
  | [], _ :: _, h => by simp [listSame] at h
  | _ :: _, [], h => by simp [listSame] at h
theorem AV.same_eq {a b : AV} (h : a.same b = true) : a = b := by
  cases a with
  | t l => cases b <;> exact absurd h (by simp [AV.same])
  | r x =>
    cases b with
    | t l => exact absurd h (by simp [AV.same])
    | r y =>
      have h' : x.same y = true := h
      cases x with
      | v a => cases y with
        | v b => rw [AS.same_eq h']
        | g m => exact absurd h' (by simp [AR.same])
      | g l => cases y with
        | v b => exact absurd h' (by simp [AR.same])
        | g m => rw [listSame_eq h']
end Go.Proofs.Ytaijmekhfleciaa.Am
