/- Block numbers only grow; what an operation answers hangs on its own temporaries alone. -/
import Derived.Test.YtaijmekhfleciaaAmC5
set_option linter.unusedVariables false
set_option linter.unusedSimpArgs false
namespace Go.Proofs.Ytaijmekhfleciaa.Am
open Go
def Good (h h' : HS) : Prop := h.nx ≤ h'.nx ∧ (h.wf → h'.wf)
theorem Good.refl (h : HS) : Good h h := ⟨Nat.le_refl _, fun h => h⟩
theorem Good.trans {a b c : HS} (h : Good a b) (k : Good b c) : Good a c := ⟨Nat.le_trans h.1 k.1, fun x => k.2 (h.2 x)⟩
theorem put_good {h : HS} {id : Nat} {b : Blk} (hb : h.get id = some b) (x : Option Blk) : Good h (h.put id x) := by
  refine ⟨Nat.le_refl _, fun hw j hj => ?_⟩
  rw [put_get]
  unfold updG
  split
  · rename_i e
    subst e
    have := hw j hj
    rw [hb] at this
    exact absurd this (by simp)
  · exact hw j hj
theorem new_good (h : HS) (b : Blk) : Good h (h.new b) := by
  refine ⟨Nat.le_succ _, fun hw j hj => ?_⟩
  have hj' : h.nx + 1 ≤ j := hj
  rw [new_get]
  unfold updG
  rw [if_neg (by omega)]
  exact hw j (by omega)
section
variable {call : CallE} {fr : Fr} {h h' : HS} {v : AV}
def GoodCall (call : CallE) : Prop := ∀ f xs h v h', call f xs h = some (v, h') → Good h h'
theorem storeE_good {id off : Nat} {xs : List AS} (hs : storeE h id off xs = some h') : Good h h' := by
  unfold storeE at hs
  split at hs
  · rename_i cs hg
    obtain ⟨r, _, rfl⟩ := map_some_inj hs
    exact put_good hg _
  · exact absurd hs (by simp)
theorem appH_good {id n : Nat} {cap : Option Nat} (happ : appH h id n cap = some h') : Good h h' := by
  unfold appH at happ
  split at happ
  · obtain ⟨_, h4⟩ := cond_some happ
    injection h4 with h4
    subst h4
    exact Good.refl _
  · split at happ
    · rename_i hg
      injection happ with happ
      subst happ
      exact put_good hg _
    · exact absurd happ (by simp)
theorem some_good (e : some (v, h) = some (v, h')) : Good h h' := by
  injection e with e; injection e with _ e; subst e; exact Good.refl _
theorem appE_good {size bytes m : Nat} {s : AV} {new : List AS} (hv : appE h size bytes s m new = some (v, h')) : Good h h' := by
  unfold appE at hv
  split at hv
  · by_cases h0 : m = 0
    · rw [natBeq, decide_eq_true h0, cond_true] at hv
      injection hv with hv; injection hv with _ e; subst e; exact Good.refl _
    · rw [natBeq, decide_eq_false h0, cond_false] at hv
      obtain ⟨_, h2⟩ := cond_some hv
      unfold appN at h2
      injection h2 with h2; injection h2 with _ e; subst e; exact new_good _ _
  · by_cases h0 : m = 0
    · rw [natBeq, decide_eq_true h0, cond_true] at hv
      injection hv with hv; injection hv with _ e; subst e; exact Good.refl _
    · rw [natBeq, decide_eq_false h0, cond_false] at hv
      obtain ⟨_, h2⟩ := cond_some hv
      split at h2
      · rename_i happ
        unfold appN at h2
        injection h2 with h2; injection h2 with _ e; subst e; exact (appH_good happ).trans (new_good _ _)
      · exact absurd h2 (by simp)
  · exact absurd hv (by simp)
theorem cSem_good (hc : GoodCall call) {o : COp} (hv : cSem o call fr h = some (v, h')) : Good h h' := by
  cases o with
  | store n a x =>
    have hv' : cStore n a x call fr h = some (v, h') := hv
    unfold cStore at hv'
    split at hv'
    · obtain ⟨_, h2⟩ := cond_some hv'
      obtain ⟨h3, hst, e⟩ := map_some_inj h2
      injection e with _ e; subst e
      exact storeE_good hst
    · exact absurd hv' (by simp)
  | cals f xs => exact hc _ _ _ _ _ hv
  | calv x xs =>
    have hv' : cCalV x xs call fr h = some (v, h') := hv
    unfold cCalV at hv'
    split at hv'
    · exact hc _ _ _ _ _ hv'
    · exact absurd hv' (by simp)
  | app size bytes s x =>
    have hv' : cApp size bytes s x call fr h = some (v, h') := hv
    unfold cApp at hv'
    split at hv'
    · split at hv'
      · exact appE_good hv'
      · exact absurd hv' (by simp)
    · exact absurd hv' (by simp)
  | appz size bytes z s x =>
    have hv' : cAppz size bytes z s x call fr h = some (v, h') := hv
    unfold cAppz at hv'
    split at hv'
    · split at hv'
      · obtain ⟨_, h2⟩ := cond_some hv'
        exact appE_good h2
      · exact absurd hv' (by simp)
    · exact absurd hv' (by simp)
  | cpy size d s =>
    have hv' : cCpy size d s call fr h = some (v, h') := hv
    unfold cCpy at hv'
    split at hv'
    · split at hv'
      · unfold cpyTo at hv'
        split at hv'
        · obtain ⟨_, h2⟩ := cond_some hv'
          obtain ⟨h3, hst, e⟩ := map_some_inj h2
          injection e with _ e; subst e
          exact storeE_good hst
        · injection hv' with hv'; injection hv' with _ e; subst e; exact Good.refl _
        · exact absurd hv' (by simp)
      · exact absurd hv' (by simp)
    · exact absurd hv' (by simp)
  | clr size z x =>
    have hv' : cClr size z x call fr h = some (v, h') := hv
    unfold cClr at hv'
    split at hv'
    · injection hv' with hv'; injection hv' with _ e; subst e; exact Good.refl _
    · rename_i id off n cap sz he
      by_cases h0 : n = 0
      · rw [natBeq, decide_eq_true h0, cond_true] at hv'
        injection hv' with hv'; injection hv' with _ e; subst e; exact Good.refl _
      · rw [natBeq, decide_eq_false h0, cond_false] at hv'
        obtain ⟨_, h2⟩ := cond_some hv'
        obtain ⟨h3, hst, e⟩ := map_some_inj h2
        injection e with _ e; subst e
        exact storeE_good hst
    · exact absurd hv' (by simp)
  | lkp ks zero m k =>
    have hv' : cLkp ks zero m k call fr h = some (v, h') := hv
    unfold cLkp at hv'
    split at hv'
    · split at hv'
      · obtain ⟨_, h2⟩ := cond_some hv'
        obtain ⟨_, _, e⟩ := map_some_inj h2
        injection e with _ e; subst e; exact Good.refl _
      · exact absurd hv' (by simp)
    · exact absurd hv' (by simp)
  | upd ks m k x =>
    have hv' : cUpd ks m k x call fr h = some (v, h') := hv
    unfold cUpd at hv'
    split at hv'
    · split at hv'
      · rename_i hg
        obtain ⟨_, h2⟩ := cond_some hv'
        obtain ⟨_, _, e⟩ := map_some_inj h2
        injection e with _ e; subst e; exact put_good hg _
      · exact absurd hv' (by simp)
    · exact absurd hv' (by simp)
theorem opE_good (hc : GoodCall call) {o : MOp} (hv : opE call fr h o = some (v, h')) : Good h h' := by
  cases o with
  | q q =>
    obtain ⟨_, _, e⟩ := map_some_inj (show (qSem q fr).map (fun v => (v, h)) = some (v, h') from hv)
    injection e with _ e; subst e; exact Good.refl _
  | l n a =>
    obtain ⟨_, _, e⟩ := map_some_inj (show (loadG h.get n (ev fr a)).map (fun v => (v, h)) = some (v, h') from hv)
    injection e with _ e; subst e; exact Good.refl _
  | n o =>
    obtain ⟨_, _, e⟩ := map_some_inj (show (nSem o fr h.nx).map (fun p => (p.2, h.new p.1)) = some (v, h') from hv)
    injection e with _ e; subst e; exact new_good _ _
  | c o => exact cSem_good hc hv
theorem orE_good (hc : GoodCall call) {o : MOr} {fr' : Fr} (hv : orE call fr h o = some (fr', h')) : Good h h' := by
  unfold orE at hv
  cases hw : wants fr o.guard with
  | true =>
    rw [hw, cond_true] at hv
    obtain ⟨p, hp, e⟩ := map_some_inj hv
    injection e with _ e; subst e
    exact opE_good hc (v := p.1) (h' := p.2) hp
  | false =>
    rw [hw, cond_false] at hv
    injection hv with hv; injection hv with _ e; subst e; exact Good.refl _
theorem regE_nil : regE call [] fr h = some (fr, h) := rfl
theorem regE_cons (o : MOr) (l : List MOr) : regE call (o :: l) fr h = match orE call fr h o with
    | some p => regE call l p.1 p.2
    | none => none := by
  show Option.rec (motive := fun _ => Option (Fr × HS)) none (fun p => regE call l p.1 p.2) (orE call fr h o) = _
  cases orE call fr h o <;> rfl
theorem regE_good (hc : GoodCall call) : ∀ {l : List MOr} {fr fr' : Fr} {h h' : HS}, regE call l fr h = some (fr', h') → Good h h'
  | [], fr, fr', h, h', hv => by rw [regE_nil] at hv; injection hv with hv; injection hv with _ e; subst e; exact Good.refl _
  | o :: l, fr, fr', h, h', hv => by
    rw [regE_cons] at hv
    split at hv
    · rename_i p hp
      exact (orE_good hc (fr' := p.1) (h' := p.2) hp).trans (regE_good hc hv)
    · exact absurd hv (by simp)
theorem trace_len : ∀ {l : List MOr} {fr : Fr} {h : HS} {t : List (Fr × HS)}, traceE call l fr h = some t → t.length = l.length + 1
  | [], fr, h, t, hv => by injection hv with hv; subst hv; rfl
  | o :: l, fr, h, t, hv => by
    simp only [traceE] at hv
    split at hv
    · obtain ⟨t', ht, rfl⟩ := map_some_inj hv
      simp [trace_len ht]
    · exact absurd hv (by simp)
theorem trace_zero {l : List MOr} {t : List (Fr × HS)} (hv : traceE call l fr h = some t) : stAt t 0 = (fr, h) := by
  cases l with
  | nil => injection hv with hv; subst hv; rfl
  | cons o l =>
    simp only [traceE] at hv
    split at hv
    · obtain ⟨t', ht, rfl⟩ := map_some_inj hv
      rfl
    · exact absurd hv (by simp)
/-- Each step of a trace. -/
theorem trace_step : ∀ {l : List MOr} {fr : Fr} {h : HS} {t : List (Fr × HS)}, traceE call l fr h = some t → ∀ (i : Nat) (o : MOr), l[i]? = some o → orE call (stAt t i).1 (stAt t i).2 o = some ((stAt t (i + 1)).1, (stAt t (i + 1)).2)
  | [], fr, h, t, hv, i, o, ho => by simp at ho
  | o :: l, fr, h, t, hv, 0, o', ho => by
    simp only [traceE] at hv
    split at hv
    · rename_i p hp
      obtain ⟨t', ht, rfl⟩ := map_some_inj hv
      have := trace_zero ht
      have e0 : stAt ((fr, h) :: t') 0 = (fr, h) := rfl
      have e1 : stAt ((fr, h) :: t') (0 + 1) = stAt t' 0 := rfl
      rw [e0, e1, this]
      injection ho with ho
      subst ho
      exact hp
    · exact absurd hv (by simp)
  | o :: l, fr, h, t, hv, i + 1, o', ho => by
    simp only [traceE] at hv
    split at hv
    · rename_i p hp
      obtain ⟨t', ht, rfl⟩ := map_some_inj hv
      exact trace_step ht i o' (by simpa using ho)
    · exact absurd hv (by simp)
theorem drwE_good (hc : GoodCall call) {l : List MOr} {ks : List Chk} {fr' : Fr} (hv : drwE call l ks fr h = some (fr', h')) : Good h h' := by
  unfold drwE at hv
  split at hv
  · rename_i t ht
    obtain ⟨_, h2⟩ := cond_some hv
    injection h2 with h2
    have key : ∀ n, n ≤ l.length → Good h (stAt t n).2 := by
      intro n
      induction n with
      | zero => intro _; rw [trace_zero ht]; exact Good.refl _
      | succ n ih =>
        intro hn
        have hlt : n < l.length := hn
        exact (ih (by omega)).trans (orE_good hc (trace_step ht n _ (List.getElem?_eq_getElem hlt)))
    have := key l.length (Nat.le_refl _)
    rw [h2] at this
    exact this
  · exact absurd hv (by simp)
end
section
variable {T : Nat → Option MFun} {call : CallE} {rec : CodeE}
def GoodCode (c : CodeE) : Prop := ∀ m fr h x fr' h', c m fr h = some (x, fr', h') → Good h h'
theorem thenE_good {f : Fr → HS → Out} {r : Out} {h h' : HS} {x : Ex} {fr' : Fr} (hr : ∀ y fr1 h1, r = some (y, fr1, h1) → Good h h1) (hf : ∀ fr1 h1, f fr1 h1 = some (x, fr', h') → Good h1 h') (hv : thenE f r = some (x, fr', h')) : Good h h' := by
  cases r with
  | none => exact absurd hv (by simp [thenE])
  | some p =>
    obtain ⟨y, fr1, h1⟩ := p
    cases y with
    | normal => exact (hr _ _ _ rfl).trans (hf _ _ hv)
    | exit id => exact hr _ _ _ hv
    | ret => exact hr _ _ _ hv
theorem codeF_good (hc : GoodCall call) (hr : GoodCode rec) : GoodCode (codeF call rec) := by
  intro m fr h x fr' h' hv
  cases m with
  | skip => injection hv with hv; injection hv with _ hv; injection hv with _ e; subst e; exact Good.refl _
  | reg l =>
    have hv' : nrm (regE call l fr h) = some (x, fr', h') := hv
    cases hq : regE call l fr h with
    | none => rw [hq] at hv'; exact absurd hv' (by simp [nrm])
    | some p =>
      rw [hq] at hv'
      injection hv' with hv'; injection hv' with _ hv'; injection hv' with e1 e2; subst e1 e2
      exact regE_good hc hq
  | drw l k =>
    have hv' : nrm (drwE call l k fr h) = some (x, fr', h') := hv
    cases hq : drwE call l k fr h with
    | none => rw [hq] at hv'; exact absurd hv' (by simp [nrm])
    | some p =>
      rw [hq] at hv'
      injection hv' with hv'; injection hv' with _ hv'; injection hv' with e1 e2; subst e1 e2
      exact drwE_good hc hq
  | seq a b => exact thenE_good (fun y fr1 h1 e => hr _ _ _ _ _ _ e) (fun fr1 h1 e => hr _ _ _ _ _ _ e) (show thenE (rec b) (rec a fr h) = _ from hv)
  | cond c a b =>
    have hv' : condE (rec a fr h) (rec b fr h) (ev fr c) = some (x, fr', h') := hv
    unfold condE at hv'
    split at hv'
    · exact hr _ _ _ _ _ _ hv'
    · exact hr _ _ _ _ _ _ hv'
    · exact absurd hv' (by simp)
  | blk id b =>
    have hv' : blkE id (rec b fr h) = some (x, fr', h') := hv
    cases hq : rec b fr h with
    | none => rw [hq] at hv'; exact absurd hv' (by simp [blkE])
    | some p =>
      obtain ⟨y, fr1, h1⟩ := p
      rw [hq] at hv'
      have hg := hr _ _ _ _ _ _ hq
      cases y with
      | exit j =>
        simp only [blkE] at hv'
        cases hj : Nat.beq j id with
        | true => rw [hj, cond_true] at hv'; injection hv' with hv'; injection hv' with _ hv'; injection hv' with _ e; subst e; exact hg
        | false => rw [hj, cond_false] at hv'; injection hv' with hv'; injection hv' with _ hv'; injection hv' with _ e; subst e; exact hg
      | normal => injection hv' with hv'; injection hv' with _ hv'; injection hv' with _ e; subst e; exact hg
      | ret => injection hv' with hv'; injection hv' with _ hv'; injection hv' with _ e; subst e; exact hg
  | exit id => injection hv with hv; injection hv with _ hv; injection hv with _ e; subst e; exact Good.refl _
  | loop b => exact thenE_good (fun y fr1 h1 e => hr _ _ _ _ _ _ e) (fun fr1 h1 e => hr _ _ _ _ _ _ e) (show thenE (rec (.loop b)) (rec b fr h) = _ from hv)
  | ret => injection hv with hv; injection hv with _ hv; injection hv with _ e; subst e; exact Good.refl _
  | bad => exact absurd hv (by simp [codeF])
theorem funF_good (hr : GoodCode rec) : GoodCall (funF T rec) := by
  intro f xs h v h' hv
  unfold funF at hv
  split at hv
  · rename_i mf hmf
    obtain ⟨_, h2⟩ := cond_some hv
    cases hq : rec mf.body (frOf xs 0 .nil) h with
    | none => rw [hq] at h2; exact absurd h2 (by simp [endE])
    | some p =>
      obtain ⟨y, fr1, h1⟩ := p
      rw [hq] at h2
      have hg := hr _ _ _ _ _ _ hq
      cases y with
      | exit j => exact absurd h2 (by simp [endE])
      | normal =>
        obtain ⟨_, _, e⟩ := map_some_inj (show (resE fr1 h1.get mf.res).map (fun l => (packR l, h1)) = some (v, h') from h2)
        injection e with _ e; subst e; exact hg
      | ret =>
        obtain ⟨_, _, e⟩ := map_some_inj (show (resE fr1 h1.get mf.res).map (fun l => (packR l, h1)) = some (v, h') from h2)
        injection e with _ e; subst e; exact hg
  · exact absurd hv (by simp)
theorem codeE_good (T : Nat → Option MFun) (n : Nat) : GoodCode (codeE T n) := by
  induction n with
  | zero => intro m fr h x fr' h' hv; exact absurd hv (by simp [codeE])
  | succ n ih => exact codeF_good (funF_good ih) ih
theorem funE_good (T : Nat → Option MFun) (n : Nat) : GoodCall (funE T n) := funF_good (codeE_good T n)
end
end Go.Proofs.Ytaijmekhfleciaa.Am
