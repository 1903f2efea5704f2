/- Regions whose order is drawn: the law. -/
import Derived.Test.YtaijmekhfleciaaAmDrw4
set_option linter.unusedVariables false
set_option linter.unusedSimpArgs false
namespace Go.Proofs.Ytaijmekhfleciaa.Am
open Go
section
variable {P : Program} {nt : Nat} {ops : Array Oper} {call : CallE} {fr : Fr} {h : HS} {t : List (Fr × HS)} {ρ0 : Rho} {w0 : World}
/-- When the operations of D are done. -/
structure DInv (P : Program) (nt : Nat) (ops : Array Oper) (ms : List MOr) (t : List (Fr × HS)) (ρ0 : Rho) (w0 : World) (D : Nat → Bool) (a : Act) (w : World) (ρ : Rho) : Prop where
  closed : Closed ops.toList D
  rf : RF ρ nt (frD (trF t) (dstM ms) D ms.length) a
  stp : Stp (trH t 0).get ρ0 w0 (GD (trH t) (clsAt ms) D ms.length) ρ w (trH t 0).nx (trH t ms.length).nx
  free : ∀ k, k < ms.length → D k = false → ∀ id, (trH t k).nx ≤ id → id < (trH t (k + 1)).nx → ρ id = none
/-- One operation more. -/
theorem drw_step (hcall : CallOk P call) (ctx : DCtx ops.toList (ops.toList.map (cOr P nt ops.toList)) call fr h t) {D D' : Nat → Bool} {a : Act} {w : World} {ρ : Rho} (inv : DInv P nt ops (ops.toList.map (cOr P nt ops.toList)) t ρ0 w0 D a w ρ) {i : Nat} {o : Oper} (ho : ops[i]? = some o)
    (hready : ∀ p ∈ preds o, D p = true) (hDi : D i = false) (hD' : ∀ k, D' k = (D k || Nat.beq k i)) {K : Act → World → Prop} {Q : Exit → Act → World → Prop}
    (hK : ∀ a' w' ρ', DInv P nt ops (ops.toList.map (cOr P nt ops.toList)) t ρ0 w0 D' a' w' ρ' → K a' w') : wpOp P ops Q i K a w := by
  have hH := tr_hstep ctx.good ctx.tr ctx.wf
  have hF := tr_fstep ctx.tr
  have hoL : ops.toList[i]? = some o := by rw [Array.getElem?_toList]; exact ho
  have hm : (ops.toList.map (cOr P nt ops.toList))[i]? = some (cOr P nt ops.toList o) := by rw [List.getElem?_map, hoL]; rfl
  generalize hms : ops.toList.map (cOr P nt ops.toList) = ms at *
  have hi : i < ms.length := (List.getElem?_eq_some_iff.1 hm).1
  have hstep := trace_step ctx.tr i _ hm
  have hcomp := cOr_ok hstep
  have hcls := cls_of hm
  have hdm : dstM ms i = (cOr P nt ops.toList o).dst := by simp [dstM, hm]
  generalize cOr P nt ops.toList o = m at hm hstep hcomp hcls hdm
  have hstep' : orE call (trF t i) (trH t i) m = some (trF t (i + 1), trH t (i + 1)) := hstep
  -- who is done of those that write a temporary that i names
  have who : ∀ d ∈ m.names, ∀ k, k < ms.length → dstM ms k = some d → (D k = true ↔ k < i) := by
    intro d hd k hk hdk
    by_cases e : k = i
    · subst e
      rw [hDi]
      constructor
      · intro h; exact absurd h (by simp)
      · intro h; omega
    · have hmk := List.getElem?_eq_getElem hk
      have hdk' : ms[k].dst = some d := by simpa [dstM, hmk] using hdk
      rcases names_ok ctx.nam hmk hm e hd hdk' with ha | ha
      · have h1 := ahead_lt ctx.pre i (by rw [← ctx.len]; exact hi) ha
        have h2 := ahead_ready ctx.pre inv.closed hoL hready ha
        exact ⟨fun _ => h1, fun _ => h2⟩
      · have h1 := ahead_lt ctx.pre k (by rw [← ctx.len]; exact hk) ha
        refine ⟨fun h2 => ?_, fun h2 => by omega⟩
        have := ahead_done ctx.pre inv.closed k (by rw [← ctx.len]; exact hk) h2 ha
        rw [hDi] at this
        exact absurd this (by simp)
  have looks : ∀ d ∈ m.looks, gets (frD (trF t) (dstM ms) D ms.length) d = gets (trF t i) d := fun d hd =>
    frD_agree hF (by omega) (who d (by unfold MOr.names; exact List.mem_append_right _ hd))
  have hxs := xs_congr looks
  have hwant := (wanted_ok (ops := ops) inv.rf hcomp).trans (wants_congr looks)
  obtain ⟨hd, hop, hdst, _⟩ := hcomp
  have hfrD' : ∀ d, gets (frD (trF t) (dstM ms) D' ms.length) d = if m.dst = some d then gets (trF t (i + 1)) d else gets (frD (trF t) (dstM ms) D ms.length) d := by
    intro d
    rw [frD_more hF hi hDi hD' ?_ d, hdm]
    intro d' k h1 h2 h3
    exact who d' (by unfold MOr.names; rw [← hdm, h1]; simp) k h2 h3
  have h0i := hH.le (Nat.zero_le i) (by omega)
  have hin := hH.le (show i + 1 ≤ ms.length from hi) (Nat.le_refl _)
  have hii := hH.mono i hi
  -- what follows
  have fin : ∀ a' w' ρ' v, RF ρ' nt (putD (frD (trF t) (dstM ms) D ms.length) m.dst v) a' → trF t (i + 1) = putD (trF t i) m.dst v →
      Stp (GD (trH t) (clsAt ms) D ms.length) ρ w (GD (trH t) (clsAt ms) D' ms.length) ρ' w' (trH t i).nx (trH t (i + 1)).nx → K a' w' := by
    intro a' w' ρ' v hrf hFi hstp
    refine hK a' w' ρ' ⟨?_, ?_, ?_, ?_⟩
    · intro j oj hj hdj p hp
      rw [hD'] at hdj ⊢
      rw [Bool.or_eq_true] at hdj ⊢
      rcases hdj with hdj | hdj
      · exact .inl (inv.closed j oj hj hdj p hp)
      · rw [natBeq, decide_eq_true_eq] at hdj
        subst hdj
        rw [hoL] at hj; injection hj with hj; subst hj
        exact .inl (hready p hp)
    · refine hrf.congr fun d => ?_
      rw [hfrD', gets_putD, hFi, gets_putD]
      by_cases e : m.dst = some d <;> simp [e]
    · exact inv.stp.tran (hstp.wide h0i hin)
    · intro k hk hdk id h1 h2
      rw [hD', Bool.or_eq_false_iff, natBeq, decide_eq_false_iff_not] at hdk
      rw [hstp.dom id ?_]
      · exact inv.free k hk hdk.1 id h1 h2
      · rintro ⟨h3, h4⟩
        rcases Nat.lt_or_ge k i with hlt | hge
        · have := hH.le (show k + 1 ≤ i from hlt) (by omega); omega
        · have := hH.le (show i + 1 ≤ k by omega) (by omega); omega
  have hRB := inv.stp.rb
  -- no writer behind i is done
  have noC : clsAt ms i = .c ∨ clsAt ms i = .n → ∀ k, k < ms.length → i < k → clsAt ms k = .c → D k = false := by
    intro hci k hk hik hck
    cases hdk : D k with
    | false => rfl
    | true =>
      have := ahead_done ctx.pre inv.closed k (by rw [← ctx.len]; exact hk) hdk (pairs_ok ctx.prs hik hk hck hci)
      rw [hDi] at this
      exact absurd this (by simp)
  have look : clsAt ms i = .q ∨ clsAt ms i = .l → Stp (GD (trH t) (clsAt ms) D ms.length) ρ w (GD (trH t) (clsAt ms) D' ms.length) ρ w (trH t i).nx (trH t (i + 1)).nx := by
    intro hc
    rw [GD_look hc hD']
    exact (Stp.refl hRB (trH t i).nx).wide (Nat.le_refl _) hii
  have write : clsAt ms i = .c → RB (trH t i).get ρ w ∧ ∀ w' ρ', Stp (trH t i).get ρ w (trH t (i + 1)).get ρ' w' (trH t i).nx (trH t (i + 1)).nx → Stp (GD (trH t) (clsAt ms) D ms.length) ρ w (GD (trH t) (clsAt ms) D' ms.length) ρ' w' (trH t i).nx (trH t (i + 1)).nx := by
    intro hc
    have allC : ∀ k, k < i → clsAt ms k = .c ∨ clsAt ms k = .n → D k = true := fun k hk hck => ahead_ready ctx.pre inv.closed hoL hready (pairs_ok ctx.prs hk hi hc hck)
    have hsub : ∀ id b, (trH t i).get id = some b → GD (trH t) (clsAt ms) D ms.length id = some b := by
      intro id b e
      have hlt : id < (trH t i).nx := by
        rcases Nat.lt_or_ge id (trH t i).nx with h1 | h1
        · exact h1
        · rw [hH.wf i (by omega) id h1] at e; exact absurd e (by simp)
      rw [GD_at hH (by omega) ?_ hlt ?_]
      · exact e
      · intro k hk hck
        refine ⟨fun hdk => ?_, fun hk2 => allC k hk2 (.inl hck)⟩
        rcases Nat.lt_or_ge k i with h1 | h1
        · exact h1
        · by_cases e : k = i
          · rw [e, hDi] at hdk; exact absurd hdk (by simp)
          · rw [noC (.inl hc) k hk (by omega) hck] at hdk; exact absurd hdk (by simp)
      · intro k hk hck hdk
        rw [allC k hk (.inr hck)] at hdk
        exact absurd hdk (by simp)
    refine ⟨hRB.sub hsub, fun w' ρ' hs => hs.over hRB hsub fun id b e => ?_⟩
    rcases GD_write hH hi hc (noC (.inl hc)) hD' id with h1 | ⟨h1, h2⟩
    · rw [h1] at e; exact .inl e
    · rw [h1] at e; exact .inr ⟨e, hH.wf i (by omega) id h2⟩
  unfold wpOp
  rw [ho]
  show (if Region.wanted o (yielded ops a.tmps) then o.wp P a w K Q ∨ (o.asks P a w ∧ LetsOut Q) else K (a.put o.dst undef) w)
  rw [hwant]
  unfold orE at hstep'
  cases hwt : wants (trF t i) m.guard with
  | false =>
    rw [hwt, cond_false] at hstep'
    injection hstep' with hstep'
    injection hstep' with e1 e2
    rw [if_neg (by simp)]
    refine fin _ _ ρ und (by rw [hdst] at *; exact inv.rf.put hd und_rel) e1.symm ?_
    rcases isC_or (clsAt ms i) with hc | hc | hc | hc
    · exact look (.inl hc)
    · exact look (.inr hc)
    · refine ((Stp.refl hRB (trH t i).nx).wide (Nat.le_refl _) hii).eq fun id => ?_
      rw [GD_new hH hi hDi hc (noC (.inr hc)) hD' id]
      have : inNew (trH t) i id = false := by
        cases hn : inNew (trH t) i id with
        | false => rfl
        | true => have := inNew_iff.1 hn; rw [← e2] at this; omega
      rw [this, cond_false]
    · obtain ⟨hb, hs⟩ := write hc
      refine hs w ρ ?_
      rw [← e2]
      exact Stp.refl hb _
  | true =>
    rw [hwt, cond_true] at hstep'
    obtain ⟨p, hp, e⟩ := map_some_inj hstep'
    injection e with e1 e2
    rw [if_pos rfl]
    refine .inl ?_
    obtain ⟨mdst, mop, mguard⟩ := m
    obtain ⟨odst, oop, otype, opos, oafter, oguard⟩ := o
    simp only at hdst hop hp hcls hxs hwt fin
    subst hdst
    have vok : ∀ {v : AV}, clsAt ms i = .q ∨ clsAt ms i = .l → VOk P w ρ a ⟨mdst, oop, otype, opos, oafter, oguard⟩ v → p.1 = v → Oper.wp P ⟨mdst, oop, otype, opos, oafter, oguard⟩ a w K Q := by
      rintro v hc ⟨u, hrun, hr⟩ hv
      unfold Oper.wp
      rw [hrun]
      exact fin _ _ ρ v (inv.rf.put hd hr) (by rw [← hv]; exact e1.symm) (look hc)
    cases mop with
    | q q =>
      obtain ⟨v, hq, e⟩ := map_some_inj (show (qSem q (trF t i)).map (fun v => (v, trH t i)) = some p from hp)
      rw [← q_congr (fr := frD (trF t) (dstM ms) D ms.length) hxs] at hq
      exact vok (.inl hcls) (q_ok inv.rf hop hq) (by rw [← e])
    | l n x =>
      obtain ⟨v, hq, e⟩ := map_some_inj (show (loadG (trH t i).get n (ev (trF t i) x)).map (fun v => (v, trH t i)) = some p from hp)
      have hq2 := load_drawn ctx inv.closed hoL hready hDi hm hwt hq
      rw [← hxs x (by simp [MOp.xs])] at hq2
      exact vok (.inr hcls) (l_ok inv.rf hRB hop hq2) (by rw [← e])
    | n q =>
      have hc : clsAt ms i = .n := hcls
      obtain ⟨r, hq, e⟩ := map_some_inj (show (nSem q (trF t i) (trH t i).nx).map (fun p => (p.2, (trH t i).new p.1)) = some p from hp)
      rw [← e] at e1 e2
      have hnx : (trH t (i + 1)).nx = (trH t i).nx + 1 := by rw [← e2]; rfl
      rw [← n_congr (fr := frD (trF t) (dstM ms) D ms.length) hxs] at hq
      obtain ⟨u, w', ρ', hrun, hr, hs⟩ := n_ok (w := w) (dst := mdst) (type := otype) (pos := opos) (after := oafter) (guard := oguard) inv.rf hRB (inv.free i hi hDi _ (Nat.le_refl _) (by omega)) hop (show nSem q _ (trH t i).nx = some (r.1, r.2) from hq)
      unfold Oper.wp
      rw [hrun]
      refine fin _ _ ρ' r.2 ((inv.rf.mono hs.ext).put hd hr) e1.symm ?_
      rw [hnx]
      refine hs.eq fun id => ?_
      rw [GD_new hH hi hDi hc (noC (.inr hc)) hD' id]
      unfold updG
      by_cases hid : id = (trH t i).nx
      · have : inNew (trH t) i id = true := inNew_iff.2 (by omega)
        rw [this, cond_true, if_pos hid, ← e2, new_get]
        simp [updG, hid]
      · have : inNew (trH t) i id = false := by
          cases hn : inNew (trH t) i id with
          | false => rfl
          | true => have := inNew_iff.1 hn; omega
        rw [this, cond_false, if_neg hid]
    | c q =>
      have hc : clsAt ms i = .c := hcls
      obtain ⟨hb, hs⟩ := write hc
      have hp' : cSem q call (trF t i) (trH t i) = some (p.1, p.2) := hp
      have hp2 : p.2 = trH t (i + 1) := e2
      rw [hp2] at hp'
      rw [← c_congr (fr := frD (trF t) (dstM ms) D ms.length) hxs] at hp'
      refine c_ok hcall inv.rf hb (hH.wf i (by omega)) (fun id h1 h2 => inv.free i hi hDi id h1 h2) hop hp' K Q fun u w' ρ' hr hstp hn => ?_
      exact fin _ _ ρ' p.1 ((inv.rf.mono hstp.ext).put hd hr) e1.symm (hs w' ρ' hstp)
end
end Go.Proofs.Ytaijmekhfleciaa.Am
