/- A load in a drawn order. -/
import Derived.Test.YtaijmekhfleciaaAmDrw3
set_option linter.unusedVariables false
set_option linter.unusedSimpArgs false
namespace Go.Proofs.Ytaijmekhfleciaa.Am
open Go
theorem exists_max {p : Nat → Prop} : ∀ (n : Nat), (∃ c, c < n ∧ p c) → ∃ c, c < n ∧ p c ∧ ∀ c', c < c' → c' < n → ¬ p c'
  | 0, ⟨c, h, _⟩ => absurd h (Nat.not_lt_zero _)
  | n + 1, ⟨c, h, hc⟩ => by
    by_cases hn : p n
    · exact ⟨n, by omega, hn, fun c' h1 h2 => by omega⟩
    · have hcn : c ≠ n := fun e => hn (e ▸ hc)
      obtain ⟨c2, h1, h2, h3⟩ := exists_max n ⟨c, by omega, hc⟩
      refine ⟨c2, by omega, h2, fun c' h4 h5 => ?_⟩
      by_cases e : c' = n
      · exact e ▸ hn
      · exact h3 c' h4 (by omega)
theorem exists_min {p : Nat → Prop} : ∀ (n : Nat), p n → ∃ c, c ≤ n ∧ p c ∧ ∀ c', c' < c → ¬ p c' := by
  intro n
  induction n using Nat.strongRecOn with
  | _ n ih =>
    intro hn
    by_cases h : ∃ c, c < n ∧ p c
    · obtain ⟨c, h1, h2⟩ := h
      obtain ⟨c2, h3, h4, h5⟩ := ih c h1 h2
      exact ⟨c2, by omega, h4, h5⟩
    · exact ⟨n, Nat.le_refl _, hn, fun c' h1 h2 => h ⟨c', h1, h2⟩⟩
/-- What is known of a drawn region and its trace. -/
structure DCtx (L : List Oper) (ms : List MOr) (call : CallE) (fr : Fr) (h : HS) (t : List (Fr × HS)) : Prop where
  len : ms.length = L.length
  tr : traceE call ms fr h = some t
  pre : predsOk L = true
  nam : namesOk (befs L) ms = true
  prs : pairsOk (befs L) ms = true
  chk : ∀ k ∈ chksOf L ms, chk1 ms t k = true
  good : GoodCall call
  wf : h.wf
def Closed (L : List Oper) (D : Nat → Bool) : Prop := ∀ j o, L[j]? = some o → D j = true → ∀ p ∈ preds o, D p = true
section
variable {L : List Oper} {ms : List MOr} {call : CallE} {fr : Fr} {h : HS} {t : List (Fr × HS)} {D : Nat → Bool} {i : Nat}
theorem load_drawn (ctx : DCtx L ms call fr h t) (hD : Closed L D) {o : Oper} (ho : L[i]? = some o) (hready : ∀ p ∈ preds o, D p = true) (hDi : D i = false) {dst : Option Nat} {nn : Option Nat} {x : MX} {g : Option (Nat × Bool)} (hm : ms[i]? = some ⟨dst, .l nn x, g⟩)
    (hw : wants (trF t i) g = true) {v : AV} (hv : loadG (trH t i).get nn (ev (trF t i) x) = some v) : loadG (GD (trH t) (clsAt ms) D ms.length) nn (ev (trF t i) x) = some v := by
  have hi : i < ms.length := (List.getElem?_eq_some_iff.1 hm).1
  have hl : clsAt ms i = .l := cls_of hm
  have hH := tr_hstep ctx.good ctx.tr ctx.wf
  obtain ⟨k, hk, hki, hcs, hns⟩ := chk_mem L hi hl
  have hc := ctx.chk k hk
  unfold chk1 at hc
  rw [hki, hm] at hc
  simp only [chkL] at hc
  rw [hki] at hc
  have hw' : wants (stAt t i).1 g = true := hw
  have hv' : loadG (stAt t i).2.get nn (ev (stAt t i).1 x) = some v := hv
  rw [hw', cond_true, hv'] at hc
  simp only [Bool.and_eq_true] at hc
  obtain ⟨hc1, hc2⟩ := hc
  have atC : ∀ c, c ∈ k.cs → loadG (stAt t (cond (Nat.blt c i) c (c + 1))).2.get nn (ev (stAt t i).1 x) = some v := by
    intro c hcm
    have := List.all_eq_true.1 hc1 c hcm
    unfold sameO at this
    split at this
    · rename_i v' hv2
      rw [hv2, AV.same_eq this]
    · exact absurd this (by simp)
  have atN : ∀ j, j ∈ k.ns → notId (trH t j).nx (ev (trF t i) x) = true := fun j hj => List.all_eq_true.1 hc2 j hj
  have noAhead : ∀ j, j < i → ahead (befs L) i j = false := by
    intro j hj
    cases ha : ahead (befs L) i j with
    | false => rfl
    | true =>
      have := ahead_lt ctx.pre j (by rw [← ctx.len]; omega) ha
      omega
  have undone : ∀ j, D j = false → ahead (befs L) j i = false := by
    intro j hj
    cases ha : ahead (befs L) j i with
    | false => rfl
    | true =>
      have := ahead_ready ctx.pre hD ho hready ha
      rw [hj] at this
      exact absurd this (by simp)
  have key : ∃ p, p ≤ ms.length ∧ loadG (trH t p).get nn (ev (trF t i) x) = some v ∧ (∀ c, c < ms.length → clsAt ms c = .c → (D c = true ↔ c < p)) ∧ ∀ j, j < p → clsAt ms j = .n → D j = false → notId (trH t j).nx (ev (trF t i) x) = true := by
    by_cases hbig : ∃ c, c < ms.length ∧ (i < c ∧ clsAt ms c = .c ∧ D c = true)
    · obtain ⟨c, h1, ⟨h2, h3, h4⟩, h5⟩ := exists_max _ hbig
      have hcm : c ∈ k.cs := by
        refine hcs c h1 (by omega) h3 ?_ ?_
        · cases ha : ahead (befs L) c i with
          | false => rfl
          | true =>
            have := ahead_lt ctx.pre i (by rw [← ctx.len]; omega) ha
            omega
        · cases ha : ahead (befs L) i c with
          | false => rfl
          | true =>
            have := ahead_done ctx.pre hD c (by rw [← ctx.len]; omega) h4 ha
            rw [hDi] at this
            exact absurd this (by simp)
      have hld := atC c hcm
      have hblt : Nat.blt c i = false := by
        cases hb : Nat.blt c i with
        | false => rfl
        | true => rw [Nat.blt_eq] at hb; omega
      rw [hblt, cond_false] at hld
      refine ⟨c + 1, by omega, hld, fun c' h6 h7 => ⟨fun h8 => ?_, fun h8 => ?_⟩, fun j h6 h7 h8 => ?_⟩
      · by_cases hlt : c < c'
        · exact absurd ⟨by omega, h7, h8⟩ (h5 c' hlt h6)
        · omega
      · by_cases e : c' = c
        · rw [e]; exact h4
        · exact ahead_done ctx.pre hD c (by rw [← ctx.len]; omega) h4 (pairs_ok ctx.prs (show c' < c by omega) h1 h3 (.inl h7))
      · have hne : j ≠ c := by
          intro e
          subst e
          rw [h3] at h7
          exact absurd h7 (by simp)
        have := ahead_done ctx.pre hD c (by rw [← ctx.len]; omega) h4 (pairs_ok ctx.prs (show j < c by omega) h1 h3 (.inr h7))
        rw [h8] at this
        exact absurd this (by simp)
    · have nOk : ∀ p, p ≤ i → ∀ j, j < p → clsAt ms j = .n → D j = false → notId (trH t j).nx (ev (trF t i) x) = true := fun p hp j h6 h7 h8 => atN j (hns j (by omega) h7 (undone j h8) (noAhead j (by omega)))
      by_cases hsm : ∃ c, c < i ∧ clsAt ms c = .c ∧ D c = false
      · obtain ⟨c1, h1⟩ := hsm
        obtain ⟨c, h2, ⟨h3, h4, h5⟩, h6⟩ := exists_min (p := fun c => c < i ∧ clsAt ms c = .c ∧ D c = false) c1 h1
        have hld := atC c (hcs c (by omega) (by omega) h4 (undone c h5) (noAhead c h3))
        have hblt : Nat.blt c i = true := by rw [Nat.blt_eq]; exact h3
        rw [hblt, cond_true] at hld
        refine ⟨c, by omega, hld, fun c' h7 h8 => ⟨fun h9 => ?_, fun h9 => ?_⟩, nOk c (by omega)⟩
        · by_cases hlt : c' < c
          · exact hlt
          · by_cases e : c' = c
            · rw [e, h5] at h9
              exact absurd h9 (by simp)
            · have := ahead_done ctx.pre hD c' (by rw [← ctx.len]; omega) h9 (pairs_ok ctx.prs (show c < c' by omega) h7 h8 (.inl h4))
              rw [h5] at this
              exact absurd this (by simp)
        · cases hd : D c' with
          | true => rfl
          | false => exact absurd ⟨by omega, h8, hd⟩ (h6 c' h9)
      · refine ⟨i, by omega, hv, fun c' h7 h8 => ⟨fun h9 => ?_, fun h9 => ?_⟩, nOk i (Nat.le_refl _)⟩
        · by_cases hlt : c' < i
          · exact hlt
          · by_cases e : c' = i
            · rw [e, hDi] at h9
              exact absurd h9 (by simp)
            · exact absurd ⟨c', h7, by omega, h8, h9⟩ hbig
        · cases hd : D c' with
          | true => rfl
          | false => exact absurd ⟨c', h9, h8, hd⟩ hsm
  obtain ⟨p, hp, hld, hC, hN⟩ := key
  generalize ev (trF t i) x = ad at hld hN
  unfold loadG at hld ⊢
  split at hld
  · rename_i id off
    rw [GD_at hH hp hC ?_ ?_]
    · exact hld
    · cases hlt : decide (id < (trH t p).nx) with
      | true => exact of_decide_eq_true hlt
      | false =>
        have h1 : (trH t p).nx ≤ id := by have := of_decide_eq_false hlt; omega
        rw [hH.wf p hp id h1] at hld
        exact absurd hld (by cases nn <;> simp [loadB])
    · intro j h1 h2 h3
      cases hnew : inNew (trH t) j id with
      | false => rfl
      | true =>
        have h4 := inNew_iff.1 hnew
        have h5 := (hH.news j (by omega) (by rw [h2])).1
        have h6 := hN j h1 h2 h3
        simp only [notId, natBeq, Bool.not_eq_true', decide_eq_false_iff_not] at h6
        omega
  · exact absurd hld (by simp)
end
end Go.Proofs.Ytaijmekhfleciaa.Am
