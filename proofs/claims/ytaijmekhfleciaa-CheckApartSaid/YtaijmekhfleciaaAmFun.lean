/- The law of the small machine: functions. -/
import Derived.Test.YtaijmekhfleciaaAmCode
set_option linter.unusedVariables false
set_option linter.unusedSimpArgs false
namespace Go.Proofs.Ytaijmekhfleciaa.Am
open Go
section
variable {P : Program} {T : Nat → Option MFun}
theorem gets_frOf (d : Nat) : ∀ (l : List AV) (k : Nat) (fr : Fr), gets (frOf l k fr) d = if k ≤ d ∧ d < k + l.length then l.getD (d - k) und else gets fr d
  | [], k, fr => by
    rw [if_neg (by simp)]
    rfl
  | v :: l, k, fr => by
    show gets (frOf l (k + 1) (sets fr k v)) d = _
    rw [gets_frOf d l (k + 1), gets_sets]
    by_cases e : d = k
    · subst e
      rw [if_neg (by omega), if_pos rfl, if_pos (by simp)]
      simp
    · by_cases h1 : k ≤ d ∧ d < k + (v :: l).length
      · have h2 : k + 1 ≤ d ∧ d < k + 1 + l.length := by
          simp only [List.length_cons] at h1
          omega
        rw [if_pos h2, if_pos h1, show d - k = (d - (k + 1)) + 1 by omega]
        simp
      · have h2 : ¬ (k + 1 ≤ d ∧ d < k + 1 + l.length) := by
          simp only [List.length_cons] at h1
          omega
        rw [if_neg h2, if_neg h1, if_neg e]
theorem RVs.at {ρ : Rho} : ∀ {l : List AV} {m : List Value}, RVs ρ l m → ∀ d, RV ρ (l.getD d und) (m.getD d undef)
  | [], [], _, d => by simpa using und_rel
  | x :: l, v :: m, ⟨h1, _⟩, 0 => by simpa using h1
  | x :: l, v :: m, ⟨_, h2⟩, d + 1 => by simpa using RVs.at h2 d
  | [], _ :: _, h, _ => h.elim
  | _ :: _, [], h, _ => h.elim
theorem RF.enter {ρ : Rho} {xs : List AV} {vs : List Value} {nt : Nat} (hx : RVs ρ xs vs) (hl : xs.length ≤ nt) : RF ρ nt (frOf xs 0 .nil) { tmps := vs.toArray ++ Array.replicate (nt - vs.toArray.size) undef, defers := [] } := by
  have hlen := hx.length
  refine ⟨by simp; omega, fun d => ?_, rfl⟩
  rw [gets_frOf]
  by_cases h : d < xs.length
  · rw [if_pos (by omega)]
    have := hx.at d
    have e : (vs.toArray ++ Array.replicate (nt - vs.toArray.size) undef).getD d undef = vs.getD d undef := by
      have hd : d < vs.length := by omega
      simp [Array.getElem?_append, hd]
    rw [Nat.sub_zero, e]
    exact this
  · rw [if_neg (by omega), gets_nil]
    have e : (vs.toArray ++ Array.replicate (nt - vs.toArray.size) undef).getD d undef = undef := by
      have hd : ¬ d < vs.length := by omega
      simp only [Array.getD_eq_getD_getElem?, Array.getElem?_append, List.size_toArray, if_neg hd, Array.getElem?_replicate]
      split <;> rfl
    rw [e]
    exact und_rel
/-- What is handed back. -/
theorem res_ok {ρ : Rho} {nt : Nat} {fr : Fr} {a : Act} {w : World} {g : Nat → Option Blk} (hf : RF ρ nt fr a) (hb : RB g ρ w) : ∀ {L : List ResultVar} {R : List MRes} {l : List AR}, compR P L = some R → resE fr g R = some l →
    ∃ vs : List Value, (L.mapM (m := Sem) fun
      | .tmp t => pure (a.tmps.getD t undef)
      | .cell ad t => do loadVar t (← asAddr (a.tmps.getD ad undef))).run P w = .ok vs w ∧ RRs ρ l vs
  | [], R, l, hc, hr => by
    injection hc with hc
    subst hc
    injection hr with hr
    subst hr
    exact ⟨[], by simp, trivial⟩
  | .tmp t :: L, R, l, hc, hr => by
    obtain ⟨R', hR, rfl⟩ := map_some_inj (show (compR P L).map (MRes.tmp t :: ·) = some R from hc)
    simp only [resE] at hr
    split at hr
    · rename_i x r hx hrest
      injection hr with hr
      subst hr
      obtain ⟨vs, h1, h2⟩ := res_ok hf hb hR hrest
      have ht := hf.at_ t
      rw [hx] at ht
      refine ⟨a.tmps.getD t undef :: vs, ?_, ht, h2⟩
      simp only [List.mapM_cons, Sem.run_bind, Sem.run_pure, Result.andThen_ok, h1]
    · exact absurd hr (by simp)
  | .cell ad t :: L, R, l, hc, hr => by
    have key : ∀ {n : Option Nat} {R' : List MRes}, compR P L = some R' → R = .cell ad n :: R' → ((∃ k, n = some k ∧ aggP P t = some true ∧ sizeP P t = some k) ∨ (n = none ∧ aggP P t = some false)) →
        ∃ vs : List Value, ((ResultVar.cell ad t :: L).mapM (m := Sem) fun
          | .tmp t => pure (a.tmps.getD t undef)
          | .cell ad t => do loadVar t (← asAddr (a.tmps.getD ad undef))).run P w = .ok vs w ∧ RRs ρ l vs := by
      intro n R' hR e ht
      subst e
      simp only [resE] at hr
      split at hr
      · rename_i x r hx hrest
        injection hr with hr
        subst hr
        obtain ⟨vs, h1, h2⟩ := res_ok hf hb hR hrest
        obtain ⟨addr, he, z, hz, hzr⟩ := loadG_ok (P := P) (t := t) hb (hf.at_ ad) hx ht
        refine ⟨z :: vs, ?_, hzr, h2⟩
        have hasA : (asAddr (a.tmps.getD ad undef)).run P w = .ok addr w := by rw [he]; rfl
        simp only [List.mapM_cons, Sem.run_bind, Sem.run_pure, Result.andThen_ok, hasA, hz, h1]
      · exact absurd hr (by simp)
    simp only [compR] at hc
    split at hc
    · rename_i s r hg hs hR
      injection hc with hc
      exact key hR hc.symm (.inl ⟨s, rfl, hg, hs⟩)
    · rename_i s r hg hs hR
      injection hc with hc
      exact key hR hc.symm (.inr ⟨rfl, hg⟩)
    · exact absurd hc (by simp)
theorem results_run {fn : Func} {tmps : Array Value} {w : World} {us : List Value} (h : (fn.results.toList.mapM (m := Sem) fun
      | .tmp t => pure (tmps.getD t undef)
      | .cell ad t => do loadVar t (← asAddr (tmps.getD ad undef))).run P w = .ok us w) : (results fn tmps).run P w = .ok (if h : us.toArray.size = 1 then us.toArray[0] else .tuple us.toArray) w := by
  unfold results
  rw [Array.mapM_eq_mapM_toList]
  rw [Sem.run_bind, map_eq_pure_bind, Sem.run_bind]
  refine (congrArg (fun r => (Result.andThen r _).andThen _) h).trans ?_
  rfl
theorem pack_ok {ρ : Rho} {l : List AR} {vs : List Value} (h : RRs ρ l vs) : RV ρ (packR l) (if h : vs.toArray.size = 1 then vs.toArray[0] else .tuple vs.toArray) := by
  match l, vs, h with
  | [], [], _ => exact ⟨[], rfl, trivial⟩
  | [x], [v], ⟨h1, _⟩ => exact h1
  | x :: y :: l, v :: u :: vs, h =>
    rw [dif_neg (by simp)]
    exact ⟨_, rfl, h⟩
/-- A function of which only its answer is known. -/
def orc (v : AV) : MFun := ⟨0, [.tmp 0], .reg [⟨some 0, .q (.mv (.c v)), none⟩]⟩
/-- A call without arguments is known to return so, and to leave all as it was. -/
def OrcOk (P : Program) (k : Nat) (x : AR) : Prop := (∃ fn, P.funcs[k]? = some fn ∧ (fn.name == "runtime.NumGoroutine") = false ∧ fn.body.isSome = true) ∧
  ∀ w, Calls P k #[] w fun e w' => ∃ u, e = .returned u ∧ (∀ ρ, RR ρ x u) ∧ ∀ g ρ n, RB g ρ w → Stp g ρ w g ρ w' n n
def Fits (P : Program) (k : Nat) (mf : MFun) : Prop := compF P k = some mf ∨ ∃ x, mf = orc (.r x) ∧ OrcOk P k x
theorem fun_step (hT : ∀ k mf, T k = some mf → Fits P k mf) {code : CodeE} (hreg : ∀ l fr h q, code (.reg l) fr h = some q → ∃ call, nrm (regE call l fr h) = some q) (hg : GoodCode code) (hc : CodeOk P code) : CallOk P (funF T code) := by
  intro f xs h v h' vs ρ w hv hx hb hwf hfr
  have hgood := funF_good (T := T) hg f xs h v h' hv
  unfold funF at hv
  split at hv
  · rename_i mf hmf
    obtain ⟨hl, h2⟩ := cond_some hv
    rw [Nat.ble_eq] at hl
    refine (hT f mf hmf).elim (fun hcf => ?_) (fun ⟨x, e0, hfn, hcalls⟩ => ?_)
    rotate_left
    · subst e0
      have hx0 : xs = [] := by
        have : xs.length ≤ 0 := hl
        cases xs with
        | nil => rfl
        | cons a l => simp at this
      subst hx0
      have hvs : vs = [] := by
        cases vs with
        | nil => rfl
        | cons a l => exact hx.elim
      subst hvs
      cases hq : code (orc (.r x)).body (frOf [] 0 .nil) h with
      | none => rw [hq] at h2; exact absurd h2 (by simp [endE])
      | some q =>
        obtain ⟨call, e⟩ := hreg _ _ _ _ hq
        have e1 : regE call [⟨some 0, .q (.mv (.c (.r x))), none⟩] (frOf [] 0 .nil) h = some (sets .nil 0 (.r x), h) := rfl
        rw [e1] at e
        have e2 : q = (.normal, sets .nil 0 (.r x), h) := (Option.some.inj e).symm
        subst e2
        rw [hq] at h2
        have e3 : endE (orc (.r x)).res (some (.normal, sets .nil 0 (.r x), h)) = some (.r x, h) := by
          show Option.map (fun l => (packR l, h)) (resE (sets .nil 0 (.r x)) h.get [.tmp 0]) = _
          simp only [resE, gets_sets, if_true, Option.map_some, packR]
        rw [e3] at h2
        injection h2 with h2
        injection h2 with h2 h3
        subst h2 h3
        refine ⟨hfn, Nat.le_refl _, (hcalls w).mono fun e w' ⟨u, he, hu, hs⟩ => ⟨u, ρ, he, hu ρ, hs _ _ _ hb⟩⟩
    unfold compF at hcf
    split at hcf
    · rename_i fn hfn
      split at hcf
      · rename_i c r hbody hres
        cases hname : fn.name == "runtime.NumGoroutine" with
        | true => rw [hname] at hcf; exact absurd hcf (by simp)
        | false =>
          rw [hname, cond_false] at hcf
          injection hcf with hcf
          subst hcf
          refine ⟨⟨fn, hfn, hname, by rw [hbody]; rfl⟩, hgood.1, calls_of_wp hfn hbody ?_⟩
          have hrf := RF.enter hx (nt := fn.ntmps) hl
          have back : ∀ {fr1 : Fr} {h1 : HS}, (resE fr1 h1.get r).map (fun l => (packR l, h1)) = some (v, h') → ∀ a' w' ρ', RF ρ' fn.ntmps fr1 a' → Stp h.get ρ w h1.get ρ' w' h.nx h1.nx →
              a'.defers = [] ∧ ∃ u, (results fn a'.tmps).run P w' = .ok u w' ∧ ∃ u' ρ', Ending.returned u = .returned u' ∧ RV ρ' v u' ∧ Stp h.get ρ w h'.get ρ' w' h.nx h'.nx := by
            intro fr1 h1 e a' w' ρ' hrf1 hs1
            obtain ⟨l, hl2, e2⟩ := map_some_inj e
            injection e2 with e2 e3
            subst e2 e3
            obtain ⟨us, h3, h4⟩ := res_ok hrf1 hs1.rb hres hl2
            refine ⟨hrf1.nd, _, ?_, _, ρ', rfl, pack_ok h4, hs1⟩
            exact results_run h3
          cases hq : code (compC P fn.ntmps c) (frOf xs 0 .nil) h with
          | none => rw [hq] at h2; exact absurd h2 (by simp [endE])
          | some p =>
            obtain ⟨y, fr1, h1⟩ := p
            rw [hq] at h2
            have hn1 := hg _ _ _ _ _ _ hq
            cases y with
            | exit j => exact absurd h2 (by simp [endE])
            | normal =>
              have h2' : (resE fr1 h1.get r).map (fun l => (packR l, h1)) = some (v, h') := h2
              obtain ⟨_, _, e2⟩ := map_some_inj h2'
              injection e2 with _ e3
              subst e3
              exact hc c fn.ntmps _ h _ fr1 h1 _ w ρ _ hq hrf hb hwf hfr fun a' w' ρ' hrf1 hs1 _ => back h2' a' w' ρ' hrf1 hs1
            | ret =>
              have h2' : (resE fr1 h1.get r).map (fun l => (packR l, h1)) = some (v, h') := h2
              obtain ⟨_, _, e2⟩ := map_some_inj h2'
              injection e2 with _ e3
              subst e3
              exact hc c fn.ntmps _ h _ fr1 h1 _ w ρ _ hq hrf hb hwf hfr fun a' w' ρ' hrf1 hs1 _ => back h2' a' w' ρ' hrf1 hs1
      · exact absurd hcf (by simp)
    · exact absurd hcf (by simp)
  · exact absurd hv (by simp)
theorem codeE_reg (T : Nat → Option MFun) : ∀ (n : Nat) (l : List MOr) (fr : Fr) (h : HS) (q : Ex × Fr × HS), codeE T n (.reg l) fr h = some q → ∃ call, nrm (regE call l fr h) = some q
  | 0, _, _, _, _, e => absurd e (by simp [codeE])
  | n + 1, l, fr, h, q, e => ⟨_, e⟩
theorem code_all (hT : ∀ k mf, T k = some mf → Fits P k mf) : ∀ n, CodeOk P (codeE T n) ∧ LoopOk P (codeE T n) n
  | 0 => ⟨fun c nt fr h x fr' h' a w ρ Q hv => absurd hv (by simp [codeE]), fun c nt fr h x fr' h' a w ρ Q hv => absurd hv (by simp [codeE])⟩
  | n + 1 => by
    obtain ⟨h1, h2⟩ := code_all hT n
    have hg := codeE_good T n
    exact ⟨code_step hg (funF_good hg) (fun_step hT (codeE_reg T n) hg h1) h1 h2, loop_step hg h1 h2⟩
/-- THE LAW: what a run of the small machine answers, the model's call answers. -/
theorem sound (hT : ∀ k mf, T k = some mf → Fits P k mf) (n : Nat) : CallOk P (funE T n) := fun_step hT (codeE_reg T n) (codeE_good T n) (code_all hT n).1
theorem rb_nil (w : World) : RB (fun _ => none) (fun _ => none) w := ⟨fun id b h => absurd h (by simp), fun id id' b b' x x' h => absurd h (by simp)⟩
/-- A closed run's answer may stand for the run. -/
theorem orc_of (hT : ∀ k mf, T k = some mf → Fits P k mf) {n k : Nat} {x : AR} {h' : HS} (hv : funE T n k [] ⟨.nil, 0⟩ = some (.r x, h')) (hx : ∀ ρ ρ' u, RR ρ x u → RR ρ' x u) : OrcOk P k x := by
  have key := fun w => sound hT n k [] ⟨.nil, 0⟩ (.r x) h' [] (fun _ => none) w hv trivial (rb_nil w) (fun id _ => rfl) (fun _ _ _ => rfl)
  obtain ⟨fn, h1, h2, h3⟩ := (key default).1
  refine ⟨⟨fn, h1, h2, h3⟩, fun w => (key w).2.2.mono fun e w' ⟨u, ρ', he, hu, hs⟩ => ⟨u, he, fun ρ => hx _ _ _ hu, fun g ρ n hb => ?_⟩⟩
  have hkeep : ∀ k, k < w.heap.size → w'.heap[k]? = w.heap[k]? := fun k hk => hs.keep k hk fun id b x hg => by cases hg
  refine ⟨Ext.refl _, fun _ _ => rfl, ⟨fun id b hg => ?_, hb.excl⟩, hs.size, hs.os, hs.tape, hs.output, fun k hk _ => hkeep k hk, fun id b x e o r _ => ⟨id, b, x, e, o, r, rfl⟩, fun _ _ e _ => e⟩
  obtain ⟨cb, base, tot, hr, hk⟩ := hb.blk id b hg
  refine ⟨cb, base, tot, hr, ?_⟩
  cases b with
  | row o cells =>
    obtain ⟨cs, ty, fr, e1, e2⟩ := hk
    have hlt : cb < w.heap.size := (Array.getElem?_eq_some_iff.1 e1).1
    exact ⟨cs, ty, fr, (hkeep cb hlt).trans e1, e2⟩
  | map es =>
    obtain ⟨m, clock, e1, e2⟩ := hk
    have hlt : cb < w.heap.size := (Array.getElem?_eq_some_iff.1 e1).1
    exact ⟨m, clock, (hkeep cb hlt).trans e1, e2⟩
end
end Go.Proofs.Ytaijmekhfleciaa.Am
