/- Regions in the text's order. -/
import Derived.Test.YtaijmekhfleciaaAmCongr
set_option linter.unusedVariables false
set_option linter.unusedSimpArgs false
namespace Go.Proofs.Ytaijmekhfleciaa.Am
open Go
section
variable {P : Program} {w : World} {ρ : Rho} {nt : Nat} {fr fr' : Fr} {a : Act} {h h' : HS} {call : CallE} {ops : Array Oper}
def boolOf : Value → Option Bool
  | .bool b => some b
  | _ => none
theorem rv_bool_iff {x : AV} {v : Value} (hr : RV ρ x v) (want : Bool) : (boolOf v == some want) = isB want x := by
  cases x with
  | t l => obtain ⟨vs, rfl, _⟩ := hr; rfl
  | r x =>
    cases x with
    | g l => obtain ⟨vs, rfl, _⟩ := hr; rfl
    | v s =>
      cases s with
      | b x => obtain rfl : v = .bool x := hr; cases x <;> cases want <;> rfl
      | i k n => obtain rfl : v = .int k n := hr; rfl
      | s x => obtain rfl : v = .string x := hr; rfl
      | p id off => obtain ⟨_, _, _, _, rfl⟩ := hr; rfl
      | np => obtain rfl : v = .pointer none := hr; rfl
      | sl id off len cap sz => obtain ⟨_, _, _, _, _, _, rfl, _⟩ := hr; rfl
      | nsl => obtain rfl : v = .slice none 0 0 := hr; rfl
      | f fn fs cs => obtain ⟨_, _, rfl, _⟩ := hr; rfl
      | nf => obtain rfl : v = .nilFunc := hr; rfl
      | ni => obtain rfl : v = .nilIface := hr; rfl
      | m id => obtain ⟨_, _, _, _, rfl⟩ := hr; rfl
      | nm => obtain rfl : v = .map none := hr; rfl
/-- What an operation has been compiled to, and how it is guarded. -/
def CompOk (P : Program) (nt : Nat) (L : List Oper) (o : Oper) (m : MOr) : Prop :=
  dstOk nt o.dst = true ∧ cOp P o.op = some m.op ∧ m.dst = o.dst ∧ ((o.guard = none ∧ m.guard = none) ∨ ∃ j want oj d, o.guard = some (j, want) ∧ L[j]? = some oj ∧ oj.dst = some d ∧ m.guard = some (d, want))
theorem orE_bad : orE call fr h badOr = none := rfl
theorem cOr_ok {L : List Oper} {o : Oper} {p : Fr × HS} (hv : orE call fr h (cOr P nt L o) = some p) : CompOk P nt L o (cOr P nt L o) := by
  have bad : cOr P nt L o = badOr → CompOk P nt L o (cOr P nt L o) := by
    intro e
    rw [e, orE_bad] at hv
    exact absurd hv (by simp)
  unfold cOr at bad ⊢
  cases hd : dstOk nt o.dst with
  | false => rw [hd] at bad; exact bad rfl
  | true =>
    rw [hd, cond_true] at bad
    rw [cond_true]
    split at bad
    · rename_i m hm hg
      exact ⟨hd, hm, rfl, .inl ⟨hg, rfl⟩⟩
    · rename_i m j want hm hg
      split at bad
      · rename_i oj hj
        split at bad
        · rename_i d hdj
          exact ⟨hd, hm, rfl, .inr ⟨j, want, oj, d, hg, hj, hdj, rfl⟩⟩
        · exact bad rfl
      · exact bad rfl
    · exact bad rfl
theorem wanted_ok (hf : RF ρ nt fr a) {o : Oper} {m : MOr} (hc : CompOk P nt ops.toList o m) : Region.wanted o (yielded ops a.tmps) = wants fr m.guard := by
  obtain ⟨_, _, _, hg⟩ := hc
  rcases hg with ⟨h1, h2⟩ | ⟨j, want, oj, d, h1, h2, h3, h4⟩
  · rw [h2]
    simp only [Region.wanted, h1]
    rfl
  · rw [h4]
    have e1 : ops[j]? = some oj := by rw [← Array.getElem?_toList]; exact h2
    show _ = isB want (gets fr d)
    rw [← rv_bool_iff (hf.at_ d) want]
    simp only [Region.wanted, h1, yielded, e1, Option.bind_some, h3]
    cases hd : a.tmps[d]? with
    | none =>
      have : a.tmps.getD d undef = undef := by simp [hd]
      rw [this]
      rfl
    | some v =>
      have : a.tmps.getD d undef = v := by simp [hd]
      rw [this]
      cases v <;> rfl
/-- One operation. -/
theorem or_ok (hcall : CallOk P call) (hf : RF ρ nt fr a) (hb : RB h.get ρ w) (hwf : h.wf) (hfr : Fresh h ρ h'.nx) {i : Nat} {o : Oper} (ho : ops[i]? = some o) (hv : orE call fr h (cOr P nt ops.toList o) = some (fr', h')) {K : Act → World → Prop} {Q : Exit → Act → World → Prop}
    (hK : ∀ a' w' ρ', RF ρ' nt fr' a' → Stp h.get ρ w h'.get ρ' w' h.nx h'.nx → h.nx ≤ h'.nx → K a' w') : wpOp P ops Q i K a w := by
  have hc := cOr_ok hv
  have hw := wanted_ok hf hc
  obtain ⟨hd, hop, hdst, _⟩ := hc
  unfold orE at hv
  unfold wpOp
  rw [ho]
  show (if Region.wanted o (yielded ops a.tmps) then o.wp P a w K Q ∨ (o.asks P a w ∧ LetsOut Q) else K (a.put o.dst undef) w)
  rw [hw]
  cases hwt : wants fr (cOr P nt ops.toList o).guard with
  | false =>
    rw [hwt, cond_false] at hv
    injection hv with hv
    injection hv with e1 e2
    subst e1 e2
    rw [hdst] at hK
    rw [if_neg (by simp)]
    exact hK _ _ _ (hf.put hd und_rel) (Stp.refl hb _) (Nat.le_refl _)
  | true =>
    rw [hwt, cond_true] at hv
    obtain ⟨p, hp, e⟩ := map_some_inj hv
    injection e with e1 e2
    subst e1 e2
    rw [hdst] at hK
    rw [if_pos rfl]
    refine .inl ?_
    have vok : ∀ {v : AV}, VOk P w ρ a o v → p = (v, h) → Oper.wp P o a w K Q := by
      rintro v ⟨u, hrun, hr⟩ rfl
      unfold Oper.wp
      rw [hrun]
      exact hK _ _ _ (hf.put hd hr) (Stp.refl hb _) (Nat.le_refl _)
    obtain ⟨odst, oop, otype, opos, oafter, oguard⟩ := o
    generalize hm : (cOr P nt ops.toList _).op = m at hop hp
    cases m with
    | q q =>
      obtain ⟨v, hq, e⟩ := map_some_inj (show (qSem q fr).map (fun v => (v, h)) = some p from hp)
      exact vok (q_ok hf hop hq) e.symm
    | l n x =>
      obtain ⟨v, hq, e⟩ := map_some_inj (show (loadG h.get n (ev fr x)).map (fun v => (v, h)) = some p from hp)
      exact vok (l_ok hf hb hop hq) e.symm
    | n q =>
      obtain ⟨r, hq, e⟩ := map_some_inj (show (nSem q fr h.nx).map (fun p => (p.2, h.new p.1)) = some p from hp)
      subst e
      obtain ⟨u, w', ρ', hrun, hr, hs⟩ := n_ok (w := w) (dst := odst) (type := otype) (pos := opos) (after := oafter) (guard := oguard) hf hb (hfr _ (Nat.le_refl _) (Nat.lt_succ_self _)) hop (show nSem q fr h.nx = some (r.1, r.2) from hq)
      unfold Oper.wp
      rw [hrun]
      refine hK _ _ ρ' ((hf.mono hs.ext).put hd hr) ?_ (Nat.le_succ _)
      rw [new_get]
      exact hs
    | c q =>
      refine c_ok (v := p.1) (h' := p.2) hcall hf hb hwf hfr hop hp K Q fun u w' ρ' hr hs hn => ?_
      exact hK _ _ ρ' ((hf.mono hs.ext).put hd hr) hs hn
theorem reg_go (hcall : CallOk P call) (hgood : GoodCall call) {Q : Exit → Act → World → Prop} : ∀ (L : List Oper) (k : Nat) {fr : Fr} {h : HS} {a : Act} {w : World} {ρ : Rho}, (∀ j, L[j]? = ops.toList[k + j]?) → RF ρ nt fr a → RB h.get ρ w → h.wf → Fresh h ρ h'.nx →
    regE call (L.map (cOr P nt ops.toList)) fr h = some (fr', h') → (∀ a' w' ρ', RF ρ' nt fr' a' → Stp h.get ρ w h'.get ρ' w' h.nx h'.nx → h.nx ≤ h'.nx → Q .normal a' w') → wpOps P ops Q (List.range' k L.length) a w
  | [], k, fr, h, a, w, ρ, hL, hf, hb, hwf, hfr, hv, hQ => by
    rw [List.map_nil, regE_nil] at hv
    injection hv with hv; injection hv with e1 e2; subst e1 e2
    exact hQ _ _ _ hf (Stp.refl hb _) (Nat.le_refl _)
  | o :: L, k, fr, h, a, w, ρ, hL, hf, hb, hwf, hfr, hv, hQ => by
    rw [List.map_cons, regE_cons] at hv
    split at hv
    · rename_i p hp
      have ho : ops[k]? = some o := by
        have := hL 0
        rw [← Array.getElem?_toList]
        simpa using this.symm
      have hg := regE_good hgood hv
      rw [List.length_cons, List.range'_succ, wpOps_cons]
      refine or_ok hcall hf hb hwf (hfr.to hg.1) ho (fr' := p.1) (h' := p.2) hp fun a1 w1 ρ1 hf1 hs1 hn1 => ?_
      refine reg_go hcall hgood L (k + 1) (fun j => ?_) hf1 hs1.rb ((orE_good hgood (fr' := p.1) (h' := p.2) hp).2 hwf) (hfr.stp hs1 hn1) hv fun a2 w2 ρ2 hf2 hs2 hn2 => ?_
      · have := hL (j + 1)
        rw [show k + 1 + j = k + (j + 1) by omega]
        simpa using this
      · exact hQ a2 w2 ρ2 hf2 (hs1.trans hs2 hn1 hn2) (Nat.le_trans hn1 hn2)
    · exact absurd hv (by simp)
theorem reg_ok (hcall : CallOk P call) (hgood : GoodCall call) {Q : Exit → Act → World → Prop} {id : Nat} (hf : RF ρ nt fr a) (hb : RB h.get ρ w) (hwf : h.wf) (hfr : Fresh h ρ h'.nx) (hv : regE call (ops.toList.map (cOr P nt ops.toList)) fr h = some (fr', h'))
    (hQ : ∀ a' w' ρ', RF ρ' nt fr' a' → Stp h.get ρ w h'.get ρ' w' h.nx h'.nx → h.nx ≤ h'.nx → Q .normal a' w') : (Code.region id ops false).wp P Q a w := by
  refine wp_region ?_
  have := reg_go hcall hgood (Q := Q) ops.toList 0 (fun j => by rw [Nat.zero_add]) hf hb hwf hfr hv hQ
  rw [List.range_eq_range']
  simpa using this
end
end Go.Proofs.Ytaijmekhfleciaa.Am
