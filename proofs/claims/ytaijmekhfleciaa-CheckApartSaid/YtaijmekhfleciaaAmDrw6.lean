/- Regions whose order is drawn: all of it. -/
import Derived.Test.YtaijmekhfleciaaAmDrw5
set_option linter.unusedVariables false
set_option linter.unusedSimpArgs false
namespace Go.Proofs.Ytaijmekhfleciaa.Am
open Go
section
variable {P : Program} {nt : Nat} {ops : Array Oper} {call : CallE} {fr fr' : Fr} {h h' : HS} {t : List (Fr × HS)} {ρ0 ρ : Rho} {w0 w : World} {a : Act}
theorem ready_iff {listed : Array Bool} {i : Nat} (hi : i ∈ Region.ready .any ops listed) : ∃ o, ops[i]? = some o ∧ listed.getD i true = false ∧ ∀ p ∈ preds o, listed.getD p false = true := by
  unfold Region.ready at hi
  rw [List.mem_filter, Bool.and_eq_true] at hi
  obtain ⟨h1, h2, h3⟩ := hi
  cases ho : ops[i]? with
  | none => rw [ho] at h3; exact absurd h3 (by simp)
  | some o =>
    rw [ho] at h3
    refine ⟨o, rfl, by simpa using h2, fun p hp => ?_⟩
    have h3' : (o.after.all fun e => !Region.binds .any e || listed.getD e.on false) = true := h3
    unfold preds at hp
    obtain ⟨e, he, rfl⟩ := List.mem_map.1 hp
    rw [List.mem_filter] at he
    have := Array.all_eq_true_iff_forall_mem.1 h3' e (Array.mem_toList_iff.1 he.1)
    rw [he.2] at this
    simpa using this
theorem ready_of {listed : Array Bool} {i : Nat} {o : Oper} (ho : ops[i]? = some o) (hl : listed.getD i true = false) (hp : ∀ p ∈ preds o, listed.getD p false = true) : i ∈ Region.ready .any ops listed := by
  unfold Region.ready
  rw [List.mem_filter, Bool.and_eq_true]
  refine ⟨List.mem_range.2 (Array.getElem?_eq_some_iff.1 ho).1, by rw [hl]; rfl, ?_⟩
  rw [ho]
  show (o.after.all fun e => !Region.binds .any e || listed.getD e.on false) = true
  refine Array.all_eq_true_iff_forall_mem.2 fun e he => ?_
  cases hb : Region.binds .any e with
  | false => rfl
  | true =>
    have : e.on ∈ preds o := List.mem_map.2 ⟨e, List.mem_filter.2 ⟨Array.mem_toList_iff.2 he, hb⟩, rfl⟩
    rw [hp _ this]
    rfl
theorem any_go (hcall : CallOk P call) (ctx : DCtx ops.toList (ops.toList.map (cOr P nt ops.toList)) call fr h t) {Q : Exit → Act → World → Prop}
    (hQ : ∀ a' w' ρ', RF ρ' nt (trF t (ops.toList.map (cOr P nt ops.toList)).length) a' → Stp (trH t 0).get ρ0 w0 (trH t (ops.toList.map (cOr P nt ops.toList)).length).get ρ' w' (trH t 0).nx (trH t (ops.toList.map (cOr P nt ops.toList)).length).nx → Q .normal a' w') :
    ∀ (fuel : Nat) (listed : Array Bool) (U : List Nat) {a : Act} {w : World} {ρ : Rho}, listed.size = ops.size → U.length = fuel → (∀ k, k < ops.size → listed.getD k false = false → k ∈ U) →
      DInv P nt ops (ops.toList.map (cOr P nt ops.toList)) t ρ0 w0 (fun k => listed.getD k false) a w ρ → wpAny P .any ops Q fuel listed a w := by
  have hH := tr_hstep ctx.good ctx.tr ctx.wf
  have hF := tr_fstep ctx.tr
  have hlen : (ops.toList.map (cOr P nt ops.toList)).length = ops.size := by simp
  -- all is done
  have fin : ∀ (listed : Array Bool) {a : Act} {w : World} {ρ : Rho}, (∀ k, k < ops.size → listed.getD k false = true) → DInv P nt ops (ops.toList.map (cOr P nt ops.toList)) t ρ0 w0 (fun k => listed.getD k false) a w ρ → Q .normal a w := by
    intro listed a w ρ hall inv
    refine hQ a w ρ (inv.rf.congr fun d => ?_) (inv.stp.less fun id b e => ?_)
    · exact (frD_agree hF (Nat.le_refl _) fun k hk _ => ⟨fun _ => hk, fun _ => hall k (by omega)⟩).symm
    · have hlt : id < (trH t (ops.toList.map (cOr P nt ops.toList)).length).nx := by
        rcases Nat.lt_or_ge id (trH t (ops.toList.map (cOr P nt ops.toList)).length).nx with h1 | h1
        · exact h1
        · rw [hH.wf _ (Nat.le_refl _) id h1] at e; exact absurd e (by simp)
      rw [GD_at hH (Nat.le_refl _) (fun k hk _ => ⟨fun _ => hk, fun _ => hall k (by omega)⟩) hlt (fun k hk _ hd => ?_)]
      · exact e
      · have := hall k (by omega)
        have hd' : listed.getD k false = false := hd
        rw [this] at hd'
        exact absurd hd' (by simp)
  have getD_ne : ∀ (listed : Array Bool) (k : Nat), k < listed.size → listed.getD k true = listed.getD k false := by
    intro listed k hk
    simp [hk]
  -- nothing is ready: all is done
  have stuck : ∀ (listed : Array Bool), listed.size = ops.size → Region.ready .any ops listed = [] → ∀ k, k < ops.size → listed.getD k false = true := by
    intro listed hs hr k
    induction k using Nat.strongRecOn with
    | _ k ih =>
      intro hk
      cases hd : listed.getD k false with
      | true => rfl
      | false =>
        have ho : ops[k]? = some ops[k] := Array.getElem?_eq_getElem hk
        have := ready_of (listed := listed) ho (by rw [getD_ne listed k (by omega)]; exact hd) (fun p hp => ?_)
        · rw [hr] at this; exact absurd this (by simp)
        · have hlt := preds_lt ctx.pre (show ops.toList[k]? = some ops[k] by rw [Array.getElem?_toList]; exact ho) p hp
          exact ih p hlt (by omega)
  intro fuel
  induction fuel with
  | zero =>
    intro listed U a w ρ hs hU hall inv
    have hnil : U = [] := List.length_eq_zero_iff.1 hU
    have hdone : ∀ k, k < ops.size → listed.getD k false = true := by
      intro k hk
      cases hd : listed.getD k false with
      | true => rfl
      | false => have := hall k hk hd; rw [hnil] at this; exact absurd this (by simp)
    refine ⟨?_, fin listed hdone inv⟩
    cases hr : Region.ready .any ops listed with
    | nil => rfl
    | cons i l =>
      obtain ⟨o, ho, h1, _⟩ := ready_iff (show i ∈ Region.ready .any ops listed by rw [hr]; simp)
      have hi := (Array.getElem?_eq_some_iff.1 ho).1
      rw [getD_ne listed i (by omega), hdone i hi] at h1
      exact absurd h1 (by simp)
  | succ fuel ih =>
    intro listed U a w ρ hs hU hall inv
    refine ⟨fun hr => fin listed (stuck listed hs hr) inv, fun i hi => ?_⟩
    obtain ⟨o, ho, h1, h2⟩ := ready_iff hi
    have hio := (Array.getElem?_eq_some_iff.1 ho).1
    rw [getD_ne listed i (by omega)] at h1
    have hset : ∀ k, (listed.setIfInBounds i true).getD k false = (listed.getD k false || Nat.beq k i) := by
      intro k
      rw [natBeq]
      by_cases e : k = i
      · subst e
        simp [hs, hio]
      · simp [Array.getElem?_setIfInBounds_ne (Ne.symm e), e]
    refine drw_step (D := fun k => listed.getD k false) (D' := fun k => (listed.setIfInBounds i true).getD k false) hcall ctx inv ho h2 h1 hset fun a' w' ρ' inv' => ?_
    have hiU := hall i hio h1
    refine ih (listed.setIfInBounds i true) (U.erase i) (by simpa using hs) (by rw [List.length_erase_of_mem hiU, hU]; rfl) (fun k hk hd => ?_) inv'
    rw [hset, Bool.or_eq_false_iff, natBeq, decide_eq_false_iff_not] at hd
    exact (List.mem_erase_of_ne hd.2).2 (hall k hk hd.1)
theorem drw_ok (hcall : CallOk P call) (hgood : GoodCall call) (hmix : P.follows .mixedOrders = true) {Q : Exit → Act → World → Prop} {id : Nat} (hok : drawnOk ops.toList (ops.toList.map (cOr P nt ops.toList)) = true)
    (hf : RF ρ nt fr a) (hb : RB h.get ρ w) (hwf : h.wf) (hfr : Fresh h ρ h'.nx) (hv : drwE call (ops.toList.map (cOr P nt ops.toList)) (chksOf ops.toList (ops.toList.map (cOr P nt ops.toList))) fr h = some (fr', h'))
    (hQ : ∀ a' w' ρ', RF ρ' nt fr' a' → Stp h.get ρ w h'.get ρ' w' h.nx h'.nx → h.nx ≤ h'.nx → Q .normal a' w') : (Code.region id ops true).wp P Q a w := by
  have hgd := drwE_good hgood hv
  unfold drwE at hv
  split at hv
  · rename_i t ht
    obtain ⟨hchk, h2⟩ := cond_some hv
    injection h2 with h2
    simp only [drawnOk, Bool.and_eq_true] at hok
    have ctx : DCtx ops.toList (ops.toList.map (cOr P nt ops.toList)) call fr h t := ⟨by simp, ht, hok.1, hok.2.1, hok.2.2, fun k hk => List.all_eq_true.1 hchk k hk, hgood, hwf⟩
    have hH := tr_hstep ctx.good ctx.tr ctx.wf
    have e0F : trF t 0 = fr := by show (stAt t 0).1 = fr; rw [trace_zero ht]
    have e0H : trH t 0 = h := by show (stAt t 0).2 = h; rw [trace_zero ht]
    have enF : trF t (ops.toList.map (cOr P nt ops.toList)).length = fr' := by show (stAt t _).1 = fr'; rw [h2]
    have enH : trH t (ops.toList.map (cOr P nt ops.toList)).length = h' := by show (stAt t _).2 = h'; rw [h2]
    refine wp_region_any hmix ?_
    have hfalse : ∀ k, (Array.replicate ops.size false).getD k false = false := by
      intro k
      by_cases hk : k < ops.size <;> simp [hk]
    refine any_go (ρ0 := ρ) (w0 := w) hcall ctx (fun a' w' ρ' hrf hs => ?_) ops.size (Array.replicate ops.size false) (List.range ops.size) (by simp) (by simp) (fun k hk _ => List.mem_range.2 hk) (ρ := ρ) ⟨?_, ?_, ?_, ?_⟩
    · rw [enF] at hrf
      rw [e0H, enH] at hs
      exact hQ a' w' ρ' hrf hs hgd.1
    · intro j o _ hd
      simp only [hfalse] at hd
      exact absurd hd (by simp)
    · refine hf.congr fun d => ?_
      have : ∀ m, frD (trF t) (dstM (ops.toList.map (cOr P nt ops.toList))) (fun k => (Array.replicate ops.size false).getD k false) m = fr := by
        intro m
        induction m with
        | zero => exact e0F
        | succ m ih =>
          show (bif (Array.replicate ops.size false).getD m false then _ else _) = _
          rw [hfalse m, cond_false, ih]
      rw [this]
    · have : ∀ m, GD (trH t) (clsAt (ops.toList.map (cOr P nt ops.toList))) (fun k => (Array.replicate ops.size false).getD k false) m = h.get := by
        intro m
        induction m with
        | zero => show (trH t 0).get = h.get; rw [e0H]
        | succ m ih =>
          show (bif (Array.replicate ops.size false).getD m false then _ else _) = _
          rw [hfalse m, cond_false, ih]
      rw [this, e0H, enH]
      exact (Stp.drew hb h.nx).wide (Nat.le_refl _) hgd.1
    · intro k hk _ id h1 h2
      refine hfr id ?_ ?_
      · have := hH.le (Nat.zero_le k) (by omega)
        rw [e0H] at this
        omega
      · have := hH.le (show k + 1 ≤ (ops.toList.map (cOr P nt ops.toList)).length from hk) (Nat.le_refl _)
        rw [enH] at this
        omega
  · exact absurd hv (by simp)
end
end Go.Proofs.Ytaijmekhfleciaa.Am
