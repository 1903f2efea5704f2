/- All operations that read and write, and calls. -/
import Derived.Test.YtaijmekhfleciaaAmC4
set_option linter.unusedVariables false
set_option linter.unusedSimpArgs false
namespace Go.Proofs.Ytaijmekhfleciaa.Am
open Go
/-- Numbers from the next one up to hi are free. -/
def Fresh (h : HS) (ρ : Rho) (hi : Nat) : Prop := ∀ id, h.nx ≤ id → id < hi → ρ id = none
theorem Fresh.stp {h h' : HS} {ρ ρ' : Rho} {w w' : World} {hi : Nat} (hf : Fresh h ρ hi) (hs : Stp h.get ρ w h'.get ρ' w' h.nx h'.nx) (hn : h.nx ≤ h'.nx) : Fresh h' ρ' hi :=
  fun id hid hh => (hs.dom id (by omega)).trans (hf id (by omega) hh)
theorem Fresh.to {h : HS} {ρ : Rho} {hi lo : Nat} (hf : Fresh h ρ hi) (hl : lo ≤ hi) : Fresh h ρ lo := fun id h1 h2 => hf id h1 (by omega)
def HS.wf (h : HS) : Prop := ∀ id, h.nx ≤ id → h.get id = none
/-- What a call is known to do. -/
def CallOk (P : Program) (call : CallE) : Prop :=
  ∀ f xs h v h' (vs : List Value) ρ w, call f xs h = some (v, h') → RVs ρ xs vs → RB h.get ρ w → h.wf → Fresh h ρ h'.nx →
    (∃ fn, P.funcs[f]? = some fn ∧ (fn.name == "runtime.NumGoroutine") = false ∧ fn.body.isSome = true) ∧ h.nx ≤ h'.nx ∧
      Calls P f vs.toArray w (fun e w' => ∃ u ρ', e = .returned u ∧ RV ρ' v u ∧ Stp h.get ρ w h'.get ρ' w' h.nx h'.nx)
section
variable {P : Program} {w : World} {ρ : Rho} {nt : Nat} {fr : Fr} {a : Act} {h h' : HS} {call : CallE}
variable {dst : Option Tmp} {type : TypeId} {pos : String} {after : Array Edge} {guard : Option (Nat × Bool)}
/-- What follows an operation, if it follows whatever relates. -/
def COk2 (P : Program) (w : World) (ρ : Rho) (h : HS) (a : Act) (o : Oper) (h' : HS) (v : AV) : Prop :=
  ∀ (K : Act → World → Prop) (Q : Exit → Act → World → Prop), (∀ u w' ρ', RV ρ' v u → Stp h.get ρ w h'.get ρ' w' h.nx h'.nx → h.nx ≤ h'.nx → K (a.put o.dst u) w') → Oper.wp P o a w K Q
theorem COk.two {o : Oper} {v : AV} (hc : COk P w ρ h a o h' v) : COk2 P w ρ h a o h' v := by
  intro K Q hK
  obtain ⟨u, w', ρ', hrun, hv, hs, hn⟩ := hc
  unfold Oper.wp
  rcases hrun with hrun | ⟨hrun, rfl⟩
  · rw [hrun]
    exact hK u w' ρ' hv hs hn
  · rw [hrun]
    exact hK undef w' ρ' hv hs hn
theorem run_callFunc {f : FuncId} {args : Array Value} (hf : ∃ fn, P.funcs[f]? = some fn ∧ (fn.name == "runtime.NumGoroutine") = false ∧ fn.body.isSome = true) : (callFunc f args).run P w = .ok (.enter f args) w := by
  obtain ⟨fn, h1, h2, h3⟩ := hf
  have h4 : fn.body.isNone = false := by cases hb : fn.body with
    | none => rw [hb] at h3; exact absurd h3 (by simp)
    | some _ => rfl
  simp only [callFunc, Sem.run_bind, run_program, Result.andThen_ok, h1, h2, h4, Bool.false_eq_true, if_false, Sem.run_pure]
theorem call_two (hcall : CallOk P call) (hb : RB h.get ρ w) (hwf : h.wf) (hfr : Fresh h ρ h'.nx) {o : Oper} {f : FuncId} {xs : List AV} {vs : List Value} {v : AV} (hx : RVs ρ xs vs) (hv : call f xs h = some (v, h'))
    (hrun : (∃ fn, P.funcs[f]? = some fn ∧ (fn.name == "runtime.NumGoroutine") = false ∧ fn.body.isSome = true) → (execOp a.eval o).run P w = .ok (.enter f vs.toArray) w) : COk2 P w ρ h a o h' v := by
  intro K Q hK
  obtain ⟨h1, h2, h3⟩ := hcall f xs h v h' vs ρ w hv hx hb hwf hfr
  unfold Oper.wp
  rw [hrun h1, Oper.upon_enter]
  refine h3.mono fun e w' ⟨u, ρ', he, hu, hs⟩ => ?_
  subst he
  exact hK u w' ρ' hu hs h2
theorem toArray_eq {α : Type} {x : Array α} {l : List α} (h : x.toList = l) : x = l.toArray := by
  rw [← h]
theorem rowL_inv {e : TypeId} {r : Nat × List AS} (hrow : rowL P e = some r) : ∃ i zv, P.info? e = some i ∧ i.zero = some zv ∧ i.size = r.1 ∧ zv.cells.size = r.1 ∧ 0 < r.1 ∧ cASs zv.cells.toList = some r.2 ∧ r.2.length = r.1 ∧ sizeP P e = some r.1 := by
  unfold rowL at hrow
  split at hrow
  · rename_i s z hs hz
    obtain ⟨hc, hrow⟩ := cond_some hrow
    injection hrow with hrow
    subst hrow
    rw [Bool.and_eq_true, natBeq, decide_eq_true_eq, Nat.blt_eq] at hc
    obtain ⟨hzl, hs0⟩ := hc
    obtain ⟨i, zv, hi, hzv, hzc⟩ := zeroL_info hz
    have hsz : i.size = s := by
      obtain ⟨i3, hi3, h3⟩ := Option.map_eq_some_iff.1 hs
      rw [hi] at hi3; injection hi3 with hi3; subst hi3; exact h3
    have hl := (cASs_rel (ρ := fun _ => none) hzc).length
    simp only [Array.length_toList] at hl
    exact ⟨i, zv, hi, hzv, hsz, by show zv.cells.size = s; omega, hs0, hzc, hzl, hs⟩
  · exact absurd hrow (by simp)
theorem c_call (hcall : CallOk P call) (hf : RF ρ nt fr a) (hb : RB h.get ρ w) (hwf : h.wf) (hfr : Fresh h ρ h'.nx) {c : Call} {o : COp} {v : AV} (hc : cCall P c = some (.c o)) (hv : cSem o call fr h = some (v, h')) :
    COk2 P w ρ h a ⟨dst, .call c, type, pos, after, guard⟩ h' v := by
  unfold cCall at hc
  split at hc
  · exact absurd hc (by simp)
  · rename_i xs hxs
    have hargs : RVs ρ (evs fr xs) (c.args.map a.eval).toList := evsA_ok hf hxs
    split at hc
    · rename_i f hcal
      injection hc with hc; injection hc with hc; subst hc
      refine call_two hcall hb hwf hfr hargs (show call f (evs fr xs) h = some (v, h') from hv) fun hfn => ?_
      have hcf := run_callFunc (w := w) (args := (c.args.map a.eval)) hfn
      have e1 : a.eval (.func f) = .func (.func f) #[] #[] := rfl
      simp only [execOp, resolve, hcal, e1, Deferred.ofValue, invoke, Sem.run_bind, Sem.run_pure, Result.andThen_ok, Array.toArray_toList]
      rw [← hcf]
      simp
    · rename_i t hcal
      injection hc with hc; injection hc with hc; subst hc
      have hv' : cCalV (.t t) xs call fr h = some (v, h') := hv
      unfold cCalV at hv'
      split at hv'
      · rename_i f ps cs he
        have ht := hf.ev (x := .tmp t) rfl
        rw [he] at ht
        obtain ⟨pa, ca, hval, h1, h2⟩ := ht
        have hall := RVs.append (RPs.args h1) (RVs.append hargs (RPs.args h2))
        refine call_two hcall hb hwf hfr hall hv' fun hfn => ?_
        have hcf := run_callFunc (w := w) (args := (pa ++ ((c.args.map a.eval).toList ++ ca)).toArray) hfn
        simp only [execOp, resolve, hcal, hval, Deferred.ofValue, invoke, Sem.run_bind, Sem.run_pure, Result.andThen_ok]
        rw [← hcf]
        congr 2
        apply Array.ext'
        simp
      · exact absurd hv' (by simp)
    · exact absurd hc (by simp)
    · exact absurd hc (by simp)
    · rename_i b hbt
      have two : ∀ {x y : MX}, xs = [x, y] → ∃ u u', (c.args.map a.eval) = #[u, u'] ∧ RV ρ (ev fr x) u ∧ RV ρ (ev fr y) u' := by
        intro x y e
        subst e
        generalize hl : (c.args.map a.eval).toList = l at hargs
        match l, hargs with
        | [u, u'], ⟨h1, h2, _⟩ => exact ⟨u, u', toArray_eq hl, h1, h2⟩
      split at hc
      · repeat' split at hc
        all_goals (cases hc; done)
      · repeat' split at hc
        all_goals (cases hc; done)
      · cases hc
      · cases hc
      · -- append
        rename_i s x t0 t1 hts
        obtain ⟨u, u', ha, hu, hu'⟩ := two rfl
        have hat : c.argTypes = #[t0, t1] := toArray_eq hts
        split at hc
        · rename_i e ht0
          split at hc
          · rename_i size z bytes e1 hrow hby ht1
            obtain ⟨hb0, h2⟩ := cond_some hc
            injection h2 with h2; injection h2 with h2; subst h2
            rw [Nat.blt_eq] at hb0
            obtain ⟨i, zv, hi, hz, hsz, hzs, hs0, _, _, _⟩ := rowL_inv hrow
            have hbyi : i.bytes = bytes := by
              obtain ⟨i3, hi3, h3⟩ := Option.map_eq_some_iff.1 hby
              rw [hi] at hi3; injection hi3 with hi3; subst hi3; exact h3
            have hv' : cApp size bytes s x call fr h = some (v, h') := hv
            unfold cApp at hv'
            split at hv'
            · rename_i m hm
              split at hv'
              · rename_i new hnew
                obtain ⟨news, hnr, hsrc⟩ := elems_src (P := P) hb ht1 hu' hm hnew
                obtain ⟨r, w', ρ', hrun, hrv, hstp, hn⟩ := app_ok (ty := type) hb (hfr _ (Nat.le_refl _)) ht0 hi hz hsz hbyi hb0 hzs hs0 hu hsrc hnr hv'
                refine COk.two ⟨r, w', ρ', .inl ?_, hrv, hstp, hn⟩
                simp only [execOp, resolve, hbt, Sem.run_bind, Sem.run_pure, Result.andThen_ok, invoke, builtin, ha, hat, hrun]
              · exact absurd hv' (by simp)
            · exact absurd hv' (by simp)
          · exact absurd hc (by simp)
        · exact absurd hc (by simp)
      · -- copy
        rename_i d s t0 ts hts
        obtain ⟨u, u', ha, hu, hu'⟩ := two rfl
        split at hc
        · rename_i e ht0
          obtain ⟨size, hs, h2⟩ := map_some_inj hc
          injection h2 with h2; subst h2
          have hv' : cCpy size d s call fr h = some (v, h') := hv
          unfold cCpy at hv'
          split at hv'
          · rename_i n m hn hm
            split at hv'
            · rename_i new hnew
              obtain ⟨r, w', hrun, hrv, hstp, hle⟩ := copy_ok (ty := type) (t1 := t0) hb ht0 hs hu hu' hn hm hnew hv'
              refine COk.two ⟨r, w', ρ, .inl ?_, hrv, hstp, hle⟩
              have e0 : c.argTypes[0]? = some t0 := by rw [← Array.getElem?_toList, hts]; rfl
              have hrun2 : (Builtin.copy_ c.argTypes type #[u, u']).run P w = .ok r w' := by
                rw [← hrun]
                simp only [Builtin.copy_, e0]
                rfl
              simp only [execOp, resolve, hbt, Sem.run_bind, Sem.run_pure, Result.andThen_ok, invoke, builtin, ha, hrun2]
            · exact absurd hv' (by simp)
          · exact absurd hv' (by simp)
        · exact absurd hc (by simp)
      · -- clear
        rename_i x t0 ts hts
        split at hc
        · rename_i e ht0
          obtain ⟨r, hrow, h2⟩ := map_some_inj hc
          injection h2 with h2; subst h2
          obtain ⟨i, zv, hi, hz, hsz, hzs, hs0, hzc, hzl, _⟩ := rowL_inv hrow
          obtain ⟨u, hu, hr⟩ := RVs.one hargs
          have hat := toArray_eq hts
          have hxa := toArray_eq hu
          have hzv : (zeroValue e).run P w = .ok zv w := by simp [zeroValue, run_info hi, hz]
          have hv' : cClr r.1 r.2 x call fr h = some (v, h') := hv
          obtain ⟨q, w', hrun, hrv, hstp, hle⟩ := clear_ok (t1 := t0) (fr := fr) (ty := type) (ts := ts) hb ht0 hzv (cASs_rel hzc) hzl hs0 hr hv'
          refine COk.two ⟨q, w', ρ, .inl ?_, hrv, hstp, hle⟩
          simp only [execOp, resolve, hbt, Sem.run_bind, Sem.run_pure, Result.andThen_ok, invoke, builtin, hat, hxa, hrun]
        · exact absurd hc (by simp)
      · exact absurd hc (by simp)
/-- Every operation that reads and writes. -/
theorem c_ok (hcall : CallOk P call) (hf : RF ρ nt fr a) (hb : RB h.get ρ w) (hwf : h.wf) (hfr : Fresh h ρ h'.nx) {op : Op} {o : COp} {v : AV} (hc : cOp P op = some (.c o)) (hv : cSem o call fr h = some (v, h')) :
    COk2 P w ρ h a ⟨dst, op, type, pos, after, guard⟩ h' v := by
  cases op with
  | call c => exact c_call hcall hf hb hwf hfr hc hv
  | store t x y =>
    simp only [cOp] at hc
    split at hc
    · rename_i s mx my hs hx hy
      injection hc with hc; injection hc with hc; subst hc
      exact COk.two (c_store (call := call) hf hb hs hx hy hv)
    · exact absurd hc (by simp)
  | lookup t m k ok =>
    cases ok with
    | true => exact absurd hc (by simp [cOp])
    | false =>
      simp only [cOp] at hc
      split at hc
      · rename_i kt e mm mk ht hm hk
        split at hc
        · rename_i z hg hge hz
          obtain ⟨hzo, h2⟩ := cond_some hc
          obtain ⟨ks, hp, h3⟩ := map_some_inj h2
          injection h3 with h3; subst h3
          obtain ⟨u, hrun, hu, rfl⟩ := lookup_ok (fr := fr) hb ht hp hg hzo hz (hf.ev hm) (hf.ev hk) (show cLkp ks z mm mk call fr h = some (v, h') from hv)
          refine COk.two ⟨u, w, ρ, .inl ?_, hu, Stp.refl hb _, Nat.le_refl _⟩
          simp only [execOp]
          exact run_value hrun
        · exact absurd hc (by simp)
      · exact absurd hc (by simp)
  | mapUpdate t m k x =>
    simp only [cOp] at hc
    split at hc
    · rename_i kt e mm mk mx ht hm hk hx
      split at hc
      · rename_i hg
        obtain ⟨ks, hp, h3⟩ := map_some_inj hc
        injection h3 with h3; subst h3
        obtain ⟨w', hrun, rfl, hstp, hn⟩ := mapUpdate_ok (fr := fr) hb ht hp hg (hf.ev hm) (hf.ev hk) (hf.ev hx) (show cUpd ks mm mk mx call fr h = some (v, h') from hv)
        refine COk.two ⟨undef, w', ρ, .inr ⟨?_, rfl⟩, und_rel, hstp, Nat.le_of_eq hn.symm⟩
        simp only [execOp]
        exact run_skip hrun
      · exact absurd hc (by simp)
    · exact absurd hc (by simp)
  | _ =>
    have hcc := cOp_cls hc
    simp [clsOp, isQ, isQC] at hcc
end
end Go.Proofs.Ytaijmekhfleciaa.Am
