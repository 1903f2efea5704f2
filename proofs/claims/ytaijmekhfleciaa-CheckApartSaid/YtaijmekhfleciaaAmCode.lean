/- The law of the small machine: what a function's run answers, the model's call answers. -/
import Derived.Test.YtaijmekhfleciaaAmDrw6
set_option linter.unusedVariables false
set_option linter.unusedSimpArgs false
namespace Go.Proofs.Ytaijmekhfleciaa.Am
open Go
def exOf : Ex → Exit
  | .normal => .normal
  | .exit id => .exit id
  | .ret => .ret
section
variable {P : Program} {T : Nat → Option MFun}
def CodeOk (P : Program) (code : CodeE) : Prop :=
  ∀ (c : Code) (nt : Nat) (fr : Fr) (h : HS) (x : Ex) (fr' : Fr) (h' : HS) (a : Act) (w : World) (ρ : Rho) (Q : Exit → Act → World → Prop), code (compC P nt c) fr h = some (x, fr', h') → RF ρ nt fr a → RB h.get ρ w → h.wf → Fresh h ρ h'.nx →
    (∀ a' w' ρ', RF ρ' nt fr' a' → Stp h.get ρ w h'.get ρ' w' h.nx h'.nx → h.nx ≤ h'.nx → Q (exOf x) a' w') → c.wp P Q a w
def LoopOk (P : Program) (code : CodeE) (n : Nat) : Prop :=
  ∀ (c : Code) (nt : Nat) (fr : Fr) (h : HS) (x : Ex) (fr' : Fr) (h' : HS) (a : Act) (w : World) (ρ : Rho) (Q : Exit → Act → World → Prop), code (.loop (compC P nt c)) fr h = some (x, fr', h') → RF ρ nt fr a → RB h.get ρ w → h.wf → Fresh h ρ h'.nx →
    (∀ a' w' ρ', RF ρ' nt fr' a' → Stp h.get ρ w h'.get ρ' w' h.nx h'.nx → h.nx ≤ h'.nx → Q (exOf x) a' w') → Code.rounds P c Q n a w
theorem thenE_inv {f : Fr → HS → Out} {r : Out} {q : Ex × Fr × HS} (hv : thenE f r = some q) : (∃ fr1 h1, r = some (.normal, fr1, h1) ∧ f fr1 h1 = some q) ∨ (∃ x fr1 h1, r = some (x, fr1, h1) ∧ x ≠ .normal ∧ q = (x, fr1, h1)) := by
  cases r with
  | none => exact absurd hv (by simp [thenE])
  | some p =>
    obtain ⟨y, fr1, h1⟩ := p
    cases y with
    | normal => exact .inl ⟨fr1, h1, rfl, hv⟩
    | exit id => injection hv with hv; exact .inr ⟨_, fr1, h1, rfl, by simp, hv.symm⟩
    | ret => injection hv with hv; exact .inr ⟨_, fr1, h1, rfl, by simp, hv.symm⟩
theorem then_of {x : Ex} (hx : x ≠ .normal) {next : Act → World → Prop} {Q : Exit → Act → World → Prop} {a : Act} {w : World} (h : Q (exOf x) a w) : Exit.then next Q (exOf x) a w := by
  cases x with
  | normal => exact absurd rfl hx
  | exit id => exact h
  | ret => exact h
theorem loop_step {n : Nat} {code : CodeE} {call : CallE} (hg : GoodCode code) (hc : CodeOk P code) (hl : LoopOk P code n) : LoopOk P (codeF call code) (n + 1) := by
  intro c nt fr h x fr' h' a w ρ Q hv hf hb hwf hfr hQ
  rw [rounds_succ]
  rcases thenE_inv (show thenE (code (.loop (compC P nt c))) (code (compC P nt c) fr h) = _ from hv) with ⟨fr1, h1, e1, e2⟩ | ⟨y, fr1, h1, e1, hy, e2⟩
  · have g1 := hg _ _ _ _ _ _ e1
    have g2 := hg _ _ _ _ _ _ e2
    refine hc c nt fr h _ fr1 h1 a w ρ _ e1 hf hb hwf (hfr.to g2.1) fun a1 w1 ρ1 hf1 hs1 hn1 => ?_
    exact hl c nt fr1 h1 x fr' h' a1 w1 ρ1 Q e2 hf1 hs1.rb (g1.2 hwf) (hfr.stp hs1 hn1) fun a2 w2 ρ2 hf2 hs2 hn2 => hQ a2 w2 ρ2 hf2 (hs1.trans hs2 hn1 hn2) (Nat.le_trans hn1 hn2)
  · injection e2 with e2 e3
    injection e3 with e3 e4
    subst e2 e3 e4
    exact hc c nt fr h _ fr' h' a w ρ _ e1 hf hb hwf hfr fun a1 w1 ρ1 hf1 hs1 hn1 => then_of hy (hQ a1 w1 ρ1 hf1 hs1 hn1)
theorem code_step {n : Nat} {code : CodeE} {call : CallE} (hg : GoodCode code) (hcg : GoodCall call) (hcall : CallOk P call) (hc : CodeOk P code) (hl : LoopOk P code n) : CodeOk P (codeF call code) := by
  intro c nt fr h x fr' h' a w ρ Q hv hf hb hwf hfr hQ
  have here : ∀ {y : Ex}, some (y, fr, h) = some (x, fr', h') → Q (exOf y) a w := by
    intro y e
    injection e with e
    injection e with e1 e2
    injection e2 with e2 e3
    subst e1 e2 e3
    exact hQ _ _ ρ hf (Stp.refl hb _) (Nat.le_refl _)
  cases c with
  | skip => exact wp_skip (here hv)
  | exit id => exact wp_exit (here hv)
  | ret => exact wp_ret (here hv)
  | region id ops drawn =>
    cases drawn with
    | false =>
      have hv' : nrm (regE call (ops.toList.map (cOr P nt ops.toList)) fr h) = some (x, fr', h') := hv
      cases hq : regE call (ops.toList.map (cOr P nt ops.toList)) fr h with
      | none => rw [hq] at hv'; exact absurd hv' (by simp [nrm])
      | some p =>
        rw [hq] at hv'
        injection hv' with hv'
        injection hv' with e1 e2
        injection e2 with e2 e3
        subst e1 e2 e3
        exact reg_ok hcall hcg hf hb hwf hfr hq hQ
    | true =>
      simp only [compC] at hv
      cases hok : drawnOk ops.toList (ops.toList.map (cOr P nt ops.toList)) && P.follows .mixedOrders with
      | false => rw [hok] at hv; exact absurd hv (by simp [codeF])
      | true =>
        rw [hok, cond_true] at hv
        rw [Bool.and_eq_true] at hok
        have hv' : nrm (drwE call (ops.toList.map (cOr P nt ops.toList)) (chksOf ops.toList (ops.toList.map (cOr P nt ops.toList))) fr h) = some (x, fr', h') := hv
        cases hq : drwE call (ops.toList.map (cOr P nt ops.toList)) (chksOf ops.toList (ops.toList.map (cOr P nt ops.toList))) fr h with
        | none => rw [hq] at hv'; exact absurd hv' (by simp [nrm])
        | some p =>
          rw [hq] at hv'
          injection hv' with hv'
          injection hv' with e1 e2
          injection e2 with e2 e3
          subst e1 e2 e3
          exact drw_ok hcall hcg hok.2 hok.1 hf hb hwf hfr hq hQ
  | seq b d =>
    refine wp_seq ?_
    rcases thenE_inv (show thenE (code (compC P nt d)) (code (compC P nt b) fr h) = _ from hv) with ⟨fr1, h1, e1, e2⟩ | ⟨y, fr1, h1, e1, hy, e2⟩
    · have g1 := hg _ _ _ _ _ _ e1
      have g2 := hg _ _ _ _ _ _ e2
      refine hc b nt fr h _ fr1 h1 a w ρ _ e1 hf hb hwf (hfr.to g2.1) fun a1 w1 ρ1 hf1 hs1 hn1 => ?_
      exact hc d nt fr1 h1 x fr' h' a1 w1 ρ1 Q e2 hf1 hs1.rb (g1.2 hwf) (hfr.stp hs1 hn1) fun a2 w2 ρ2 hf2 hs2 hn2 => hQ a2 w2 ρ2 hf2 (hs1.trans hs2 hn1 hn2) (Nat.le_trans hn1 hn2)
    · injection e2 with e2 e3
      injection e3 with e3 e4
      subst e2 e3 e4
      exact hc b nt fr h _ fr' h' a w ρ _ e1 hf hb hwf hfr fun a1 w1 ρ1 hf1 hs1 hn1 => then_of hy (hQ a1 w1 ρ1 hf1 hs1 hn1)
  | cond k b d =>
    simp only [compC] at hv
    split at hv
    · rename_i m hm
      have hv' : condE (code (compC P nt b) fr h) (code (compC P nt d) fr h) (ev fr m) = some (x, fr', h') := hv
      have hr := hf.ev hm
      unfold condE at hv'
      split at hv'
      · rename_i e
        rw [e] at hr
        exact wp_cond_true hr (hc b nt fr h x fr' h' a w ρ Q hv' hf hb hwf hfr hQ)
      · rename_i e
        rw [e] at hr
        exact wp_cond_false hr (hc d nt fr h x fr' h' a w ρ Q hv' hf hb hwf hfr hQ)
      · exact absurd hv' (by simp)
    · exact absurd hv (by simp [codeF])
  | block id b =>
    refine wp_block ?_
    have hv' : blkE id (code (compC P nt b) fr h) = some (x, fr', h') := hv
    cases hq : code (compC P nt b) fr h with
    | none => rw [hq] at hv'; exact absurd hv' (by simp [blkE])
    | some p =>
      obtain ⟨y, fr1, h1⟩ := p
      rw [hq] at hv'
      cases y with
      | normal =>
        injection hv' with hv'; injection hv' with e1 e2; injection e2 with e2 e3; subst e1 e2 e3
        exact hc b nt fr h _ _ _ a w ρ _ hq hf hb hwf hfr fun a1 w1 ρ1 hf1 hs1 hn1 => hQ a1 w1 ρ1 hf1 hs1 hn1
      | ret =>
        injection hv' with hv'; injection hv' with e1 e2; injection e2 with e2 e3; subst e1 e2 e3
        exact hc b nt fr h _ _ _ a w ρ _ hq hf hb hwf hfr fun a1 w1 ρ1 hf1 hs1 hn1 => hQ a1 w1 ρ1 hf1 hs1 hn1
      | exit j =>
        simp only [blkE] at hv'
        cases hj : Nat.beq j id with
        | true =>
          rw [hj, cond_true] at hv'
          injection hv' with hv'; injection hv' with e1 e2; injection e2 with e2 e3; subst e1 e2 e3
          rw [natBeq, decide_eq_true_eq] at hj
          subst hj
          refine hc b nt fr h _ _ _ a w ρ _ hq hf hb hwf hfr fun a1 w1 ρ1 hf1 hs1 hn1 => ?_
          have := hQ a1 w1 ρ1 hf1 hs1 hn1
          simpa [exOf, Exit.inBlock] using this
        | false =>
          rw [hj, cond_false] at hv'
          injection hv' with hv'; injection hv' with e1 e2; injection e2 with e2 e3; subst e1 e2 e3
          rw [natBeq, decide_eq_false_iff_not] at hj
          refine hc b nt fr h _ _ _ a w ρ _ hq hf hb hwf hfr fun a1 w1 ρ1 hf1 hs1 hn1 => ?_
          have := hQ a1 w1 ρ1 hf1 hs1 hn1
          simpa [exOf, Exit.inBlock, hj] using this
  | loop b => exact wp_loop_rounds _ (loop_step (call := call) hg hc hl b nt fr h x fr' h' a w ρ Q hv hf hb hwf hfr hQ)
  | _ => exact absurd hv (by simp [compC, codeF])
end
end Go.Proofs.Ytaijmekhfleciaa.Am
