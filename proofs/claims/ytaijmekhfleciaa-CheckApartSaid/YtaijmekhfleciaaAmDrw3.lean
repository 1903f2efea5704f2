/- Regions whose order is drawn. -/
import Derived.Test.YtaijmekhfleciaaAmDrw2
set_option linter.unusedVariables false
set_option linter.unusedSimpArgs false
namespace Go.Proofs.Ytaijmekhfleciaa.Am
open Go
section
variable {call : CallE} {ms : List MOr} {t : List (Fr × HS)} {fr : Fr} {h : HS}
def trF (t : List (Fr × HS)) (k : Nat) : Fr := (stAt t k).1
def trH (t : List (Fr × HS)) (k : Nat) : HS := (stAt t k).2
def dstM (ms : List MOr) (k : Nat) : Option Nat := (ms[k]?).bind (·.dst)
theorem cls_of {i : Nat} {m : MOr} (hm : ms[i]? = some m) : clsAt ms i = clsOf m.op := by simp only [clsAt, hm]
/-- What one operation of a trace does to the heap. -/
theorem orE_heap {m : MOr} {fr fr' : Fr} {h h' : HS} (hv : orE call fr h m = some (fr', h')) : (clsOf m.op = .q ∨ clsOf m.op = .l → h' = h) ∧
    (clsOf m.op = .n → h'.nx ≤ h.nx + 1 ∧ ∀ id, ¬ (h.nx ≤ id ∧ id < h'.nx) → h'.get id = h.get id) := by
  unfold orE at hv
  cases hw : wants fr m.guard with
  | false =>
    rw [hw, cond_false] at hv
    injection hv with hv; injection hv with _ e; subst e
    exact ⟨fun _ => rfl, fun _ => ⟨Nat.le_succ _, fun _ _ => rfl⟩⟩
  | true =>
    rw [hw, cond_true] at hv
    obtain ⟨p, hp, e⟩ := map_some_inj hv
    injection e with _ e; subst e
    generalize m.op = o at hp
    cases o with
    | q q =>
      obtain ⟨v, _, e⟩ := map_some_inj (show (qSem q fr).map (fun v => (v, h)) = some p from hp)
      subst e
      exact ⟨fun _ => rfl, fun hc => by simp [clsOf] at hc⟩
    | l n x =>
      obtain ⟨v, _, e⟩ := map_some_inj (show (loadG h.get n (ev fr x)).map (fun v => (v, h)) = some p from hp)
      subst e
      exact ⟨fun _ => rfl, fun hc => by simp [clsOf] at hc⟩
    | n q =>
      obtain ⟨r, _, e⟩ := map_some_inj (show (nSem q fr h.nx).map (fun p => (p.2, h.new p.1)) = some p from hp)
      subst e
      refine ⟨fun hc => by simp [clsOf] at hc, fun _ => ⟨Nat.le_refl _, fun id hid => ?_⟩⟩
      rw [new_get]
      unfold updG
      rw [if_neg]
      intro e
      subst e
      exact hid ⟨Nat.le_refl _, Nat.lt_succ_self _⟩
    | c q => exact ⟨fun hc => by simp [clsOf] at hc, fun hc => by simp [clsOf] at hc⟩
theorem orE_put {m : MOr} {fr fr' : Fr} {h h' : HS} (hv : orE call fr h m = some (fr', h')) {d : Nat} (hd : m.dst ≠ some d) : gets fr' d = gets fr d := by
  unfold orE at hv
  cases hw : wants fr m.guard with
  | false =>
    rw [hw, cond_false] at hv
    injection hv with hv; injection hv with e _; subst e
    rw [gets_putD, if_neg hd]
  | true =>
    rw [hw, cond_true] at hv
    obtain ⟨p, hp, e⟩ := map_some_inj hv
    injection e with e _; subst e
    rw [gets_putD, if_neg hd]
theorem tr_fstep (ht : traceE call ms fr h = some t) : FStep (trF t) (dstM ms) ms.length := by
  intro k hk d hd
  have hm := List.getElem?_eq_getElem hk
  refine orE_put (trace_step ht k _ hm) ?_
  simpa [dstM, hm] using hd
theorem tr_hstep (hgood : GoodCall call) (ht : traceE call ms fr h = some t) (hwf : h.wf) : HStep (trH t) (clsAt ms) ms.length := by
  refine ⟨fun k hk => (orE_good hgood (trace_step ht k _ (List.getElem?_eq_getElem hk))).1, fun k => ?_, fun k hk hc => ?_, fun k hk hc => ?_⟩
  · induction k with
    | zero => intro _; show (stAt t 0).2.wf; rw [trace_zero ht]; exact hwf
    | succ k ih =>
      intro hk
      exact (orE_good hgood (trace_step ht k _ (List.getElem?_eq_getElem hk))).2 (ih (by omega))
  · have hm := List.getElem?_eq_getElem hk
    refine (orE_heap (trace_step ht k _ hm)).1 ?_
    rw [cls_of hm] at hc
    revert hc
    cases clsOf ms[k].op <;> simp
  · have hm := List.getElem?_eq_getElem hk
    rw [cls_of hm] at hc
    have hcn : clsOf ms[k].op = .n := by
      revert hc
      cases clsOf ms[k].op <;> simp
    obtain ⟨h1, h2⟩ := (orE_heap (trace_step ht k _ hm)).2 hcn
    refine ⟨h1, fun id hid => h2 id fun hh => ?_⟩
    have := inNew_iff (H := trH t) (k := k) (id := id) |>.2 hh
    rw [hid] at this
    exact absurd this (by simp)
end
theorem RF.congr {ρ : Rho} {nt : Nat} {fr fr' : Fr} {a : Act} (hf : RF ρ nt fr a) (h : ∀ d, gets fr' d = gets fr d) : RF ρ nt fr' a :=
  ⟨hf.size, fun d => by rw [h d]; exact hf.at_ d, hf.nd⟩
theorem Stp.less {g g' g'' : Nat → Option Blk} {ρ ρ' : Rho} {w w' : World} {lo hi : Nat} (h : Stp g ρ w g' ρ' w' lo hi) (hs : ∀ id b, g'' id = some b → g' id = some b) : Stp g ρ w g'' ρ' w' lo hi :=
  ⟨h.ext, h.dom, h.rb.sub hs, h.size, h.os, h.tape, h.output, h.keep, fun id b x e => h.img id b x (hs _ _ e), fun id b e => h.ro id b (hs _ _ e)⟩
end Go.Proofs.Ytaijmekhfleciaa.Am
