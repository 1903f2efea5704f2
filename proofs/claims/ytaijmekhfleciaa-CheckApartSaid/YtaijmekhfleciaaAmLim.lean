/- Runs of the small machine whatever the fuel, and the rules by which they are told. -/
import Derived.Test.YtaijmekhfleciaaAmFun
set_option linter.unusedVariables false
set_option linter.unusedSimpArgs false
namespace Go.Proofs.Ytaijmekhfleciaa.Am
open Go
def CallLe (c c' : CallE) : Prop := ∀ f xs h r, c f xs h = some r → c' f xs h = some r
def CodeLe (c c' : CodeE) : Prop := ∀ m fr h r, c m fr h = some r → c' m fr h = some r
section
variable {c c' : CallE} {d d' : CodeE} {T : Nat → Option MFun}
theorem cSem_le (hc : CallLe c c') {o : COp} {fr : Fr} {h : HS} {r : AV × HS} (hv : cSem o c fr h = some r) : cSem o c' fr h = some r := by
  cases o with
  | cals f xs => exact hc _ _ _ _ hv
  | calv x xs =>
    have hv' : cCalV x xs c fr h = some r := hv
    show cCalV x xs c' fr h = some r
    unfold cCalV at hv' ⊢
    split at hv'
    · exact hc _ _ _ _ hv'
    · exact absurd hv' (by simp)
  | _ => exact hv
theorem opE_le (hc : CallLe c c') {o : MOp} {fr : Fr} {h : HS} {r : AV × HS} (hv : opE c fr h o = some r) : opE c' fr h o = some r := by
  cases o with
  | c o => exact cSem_le hc hv
  | _ => exact hv
theorem orE_le (hc : CallLe c c') {o : MOr} {fr : Fr} {h : HS} {r : Fr × HS} (hv : orE c fr h o = some r) : orE c' fr h o = some r := by
  unfold orE at hv ⊢
  cases hw : wants fr o.guard with
  | false => rw [hw] at hv; exact hv
  | true =>
    rw [hw, cond_true] at hv
    obtain ⟨p, hp, e⟩ := map_some_inj hv
    rw [cond_true, opE_le hc hp]
    exact congrArg some e
theorem regE_le (hc : CallLe c c') : ∀ {l : List MOr} {fr : Fr} {h : HS} {r : Fr × HS}, regE c l fr h = some r → regE c' l fr h = some r
  | [], fr, h, r, hv => hv
  | o :: l, fr, h, r, hv => by
    rw [regE_cons] at hv ⊢
    split at hv
    · rename_i p hp
      rw [orE_le hc hp]
      exact regE_le hc hv
    · exact absurd hv (by simp)
theorem traceE_le (hc : CallLe c c') : ∀ {l : List MOr} {fr : Fr} {h : HS} {t : List (Fr × HS)}, traceE c l fr h = some t → traceE c' l fr h = some t
  | [], fr, h, t, hv => hv
  | o :: l, fr, h, t, hv => by
    simp only [traceE] at hv ⊢
    split at hv
    · rename_i p hp
      obtain ⟨t', ht, rfl⟩ := map_some_inj hv
      rw [orE_le hc hp]
      simp only [traceE_le hc ht, Option.map_some]
    · exact absurd hv (by simp)
theorem drwE_le (hc : CallLe c c') {l : List MOr} {ks : List Chk} {fr : Fr} {h : HS} {r : Fr × HS} (hv : drwE c l ks fr h = some r) : drwE c' l ks fr h = some r := by
  unfold drwE at hv ⊢
  split at hv
  · rename_i t ht
    rw [traceE_le hc ht]
    exact hv
  · exact absurd hv (by simp)
theorem nrm_le {a b : Option (Fr × HS)} {r : Ex × Fr × HS} (h : ∀ p, a = some p → b = some p) (hv : nrm a = some r) : nrm b = some r := by
  cases a with
  | none => exact absurd hv (by simp [nrm])
  | some p => rw [h p rfl]; exact hv
theorem thenE_le {f f' : Fr → HS → Out} {a b : Out} {r : Ex × Fr × HS} (hf : ∀ fr h r, f fr h = some r → f' fr h = some r) (h : ∀ p, a = some p → b = some p) (hv : thenE f a = some r) : thenE f' b = some r := by
  cases a with
  | none => exact absurd hv (by simp [thenE])
  | some p =>
    rw [h p rfl]
    obtain ⟨y, fr1, h1⟩ := p
    cases y with
    | normal => exact hf _ _ _ hv
    | _ => exact hv
theorem codeF_le (hc : CallLe c c') (hd : CodeLe d d') : CodeLe (codeF c d) (codeF c' d') := by
  intro m fr h r hv
  cases m with
  | reg l => exact nrm_le (fun p hp => regE_le hc hp) hv
  | drw l k => exact nrm_le (fun p hp => drwE_le hc hp) hv
  | seq a b => exact thenE_le (fun _ _ _ => hd _ _ _ _) (fun p => hd _ _ _ p) hv
  | cond x a b =>
    have hv' : condE (d a fr h) (d b fr h) (ev fr x) = some r := hv
    show condE (d' a fr h) (d' b fr h) (ev fr x) = some r
    unfold condE at hv' ⊢
    split at hv'
    · exact hd _ _ _ _ hv'
    · exact hd _ _ _ _ hv'
    · exact absurd hv' (by simp)
  | blk id b =>
    have hv' : blkE id (d b fr h) = some r := hv
    show blkE id (d' b fr h) = some r
    cases hq : d b fr h with
    | none => rw [hq] at hv'; exact absurd hv' (by simp [blkE])
    | some p => rw [hd _ _ _ _ hq]; rw [hq] at hv'; exact hv'
  | loop b => exact thenE_le (fun _ _ _ => hd _ _ _ _) (fun p => hd _ _ _ p) hv
  | _ => exact hv
theorem funF_le (hd : CodeLe d d') : CallLe (funF T d) (funF T d') := by
  intro f xs h r hv
  unfold funF at hv ⊢
  split at hv
  · rename_i mf hmf
    obtain ⟨hl, h2⟩ := cond_some hv
    simp only [hl, cond_true]
    cases hq : d mf.body (frOf xs 0 .nil) h with
    | none => rw [hq] at h2; exact absurd h2 (by simp [endE])
    | some p => rw [hd _ _ _ _ hq]; rw [hq] at h2; exact h2
  · exact absurd hv (by simp)
theorem codeE_le1 (T : Nat → Option MFun) : ∀ n, CodeLe (codeE T n) (codeE T (n + 1))
  | 0 => fun m fr h r hv => absurd hv (by simp [codeE])
  | n + 1 => codeF_le (funF_le (codeE_le1 T n)) (codeE_le1 T n)
theorem codeE_le {n m : Nat} (h : n ≤ m) : CodeLe (codeE T n) (codeE T m) := by
  induction m with
  | zero => obtain rfl : n = 0 := by omega
            exact fun _ _ _ _ hv => hv
  | succ m ih =>
    by_cases e : n = m + 1
    · subst e; exact fun _ _ _ _ hv => hv
    · exact fun a b c d hv => codeE_le1 T m _ _ _ _ (ih (by omega) a b c d hv)
theorem funE_le {n m : Nat} (h : n ≤ m) : CallLe (funE T n) (funE T m) := funF_le (codeE_le h)
end
/-- A function's run ends, and so. -/
def WF (T : Nat → Option MFun) (f : Nat) (xs : List AV) (h : HS) (Q : AV → HS → Prop) : Prop := ∃ n v h', funE T n f xs h = some (v, h') ∧ Q v h'
/-- A piece of code's run ends, and so. -/
def WC (T : Nat → Option MFun) (c : MC) (fr : Fr) (h : HS) (Q : Ex → Fr → HS → Prop) : Prop := ∃ n x fr' h', codeE T n c fr h = some (x, fr', h') ∧ Q x fr' h'
/-- A list of operations. -/
def WR (T : Nat → Option MFun) (l : List MOr) (fr : Fr) (h : HS) (Q : Fr → HS → Prop) : Prop := ∃ n fr' h', regE (funE T n) l fr h = some (fr', h') ∧ Q fr' h'
/-- One operation. -/
def WO (T : Nat → Option MFun) (o : MOp) (fr : Fr) (h : HS) (Q : AV → HS → Prop) : Prop := ∃ n v h', opE (funE T n) fr h o = some (v, h') ∧ Q v h'
section
variable {T : Nat → Option MFun} {fr : Fr} {h : HS} {Q : Ex → Fr → HS → Prop} {R : Fr → HS → Prop} {V : AV → HS → Prop}
theorem WF.mono {f : Nat} {xs : List AV} {V' : AV → HS → Prop} (hw : WF T f xs h V) (hi : ∀ v h', V v h' → V' v h') : WF T f xs h V' :=
  let ⟨n, v, h', e, q⟩ := hw; ⟨n, v, h', e, hi _ _ q⟩
theorem WC.mono {c : MC} {Q' : Ex → Fr → HS → Prop} (hw : WC T c fr h Q) (hi : ∀ x fr' h', Q x fr' h' → Q' x fr' h') : WC T c fr h Q' :=
  let ⟨n, x, fr', h', e, q⟩ := hw; ⟨n, x, fr', h', e, hi _ _ _ q⟩
theorem WR.nil (hr : R fr h) : WR T [] fr h R := ⟨0, fr, h, rfl, hr⟩
theorem WR.cons {o : MOr} {l : List MOr} (hw : wants fr o.guard = true) (ho : WO T o.op fr h fun v h' => WR T l (putD fr o.dst v) h' R) : WR T (o :: l) fr h R := by
  obtain ⟨n, v, h1, e1, m, fr2, h2, e2, hr⟩ := ho
  refine ⟨max n m, fr2, h2, ?_, hr⟩
  rw [regE_cons]
  have : orE (funE T (max n m)) fr h o = some (putD fr o.dst v, h1) := by
    unfold orE
    rw [hw, cond_true, opE_le (funE_le (Nat.le_max_left n m)) e1]
    rfl
  rw [this]
  exact regE_le (funE_le (Nat.le_max_right n m)) e2
theorem WR.pass {o : MOr} {l : List MOr} (hw : wants fr o.guard = false) (ho : WR T l (putD fr o.dst und) h R) : WR T (o :: l) fr h R := by
  obtain ⟨n, fr2, h2, e2, hr⟩ := ho
  refine ⟨n, fr2, h2, ?_, hr⟩
  rw [regE_cons]
  have : orE (funE T n) fr h o = some (putD fr o.dst und, h) := by
    unfold orE
    rw [hw]
    rfl
  rw [this]
  exact e2
theorem WO.q {q : QOp} {v : AV} (hq : qSem q fr = some v) (hv : V v h) : WO T (.q q) fr h V := ⟨0, v, h, by show (qSem q fr).map _ = _; rw [hq]; rfl, hv⟩
theorem WO.l {n : Option Nat} {a : MX} {v : AV} (hq : loadG h.get n (ev fr a) = some v) (hv : V v h) : WO T (.l n a) fr h V := ⟨0, v, h, by show (loadG h.get n (ev fr a)).map _ = _; rw [hq]; rfl, hv⟩
theorem WO.n {o : NOp} {b : Blk} {v : AV} (hq : nSem o fr h.nx = some (b, v)) (hv : V v (h.new b)) : WO T (.n o) fr h V := ⟨0, v, _, by show (nSem o fr h.nx).map _ = _; rw [hq]; rfl, hv⟩
theorem WO.c {o : COp} {v : AV} {h' : HS} (hq : cSem o (funE T 0) fr h = some (v, h')) (hv : V v h') : WO T (.c o) fr h V := ⟨0, v, h', hq, hv⟩
theorem WO.cals {f : Nat} {xs : List MX} (hf : WF T f (evs fr xs) h V) : WO T (.c (.cals f xs)) fr h V := hf
theorem WO.calv {x : MX} {xs : List MX} {f : Nat} {ps cs : List (Nat × Nat)} (hx : ev fr x = .r (.v (.f f ps cs))) (hf : WF T f (ptrArgs ps ++ (evs fr xs ++ ptrArgs cs)) h V) : WO T (.c (.calv x xs)) fr h V := by
  obtain ⟨n, v, h', e, hv⟩ := hf
  refine ⟨n, v, h', ?_, hv⟩
  show cCalV x xs (funE T n) fr h = _
  unfold cCalV
  rw [hx]
  exact e
theorem WC.skip (hq : Q .normal fr h) : WC T .skip fr h Q := ⟨1, _, _, _, rfl, hq⟩
theorem WC.ret (hq : Q .ret fr h) : WC T .ret fr h Q := ⟨1, _, _, _, rfl, hq⟩
theorem WC.exit {id : Nat} (hq : Q (.exit id) fr h) : WC T (.exit id) fr h Q := ⟨1, _, _, _, rfl, hq⟩
theorem WC.reg {l : List MOr} (hr : WR T l fr h fun fr' h' => Q .normal fr' h') : WC T (.reg l) fr h Q := by
  obtain ⟨n, fr', h', e, hq⟩ := hr
  refine ⟨n + 1, .normal, fr', h', ?_, hq⟩
  show nrm (regE (funE T n) l fr h) = _
  rw [e]
  rfl
def thenQ (K : Fr → HS → Prop) (Q : Ex → Fr → HS → Prop) : Ex → Fr → HS → Prop
  | .normal, fr, h => K fr h
  | x, fr, h => Q x fr h
theorem WC.seq {a b : MC} (ha : WC T a fr h (thenQ (fun fr h => WC T b fr h Q) Q)) : WC T (.seq a b) fr h Q := by
  obtain ⟨n, x, fr1, h1, e1, hq⟩ := ha
  cases x with
  | normal =>
    obtain ⟨m, x2, fr2, h2, e2, hq2⟩ := hq
    refine ⟨max n m + 1, x2, fr2, h2, ?_, hq2⟩
    show thenE (codeE T (max n m) b) (codeE T (max n m) a fr h) = _
    rw [codeE_le (Nat.le_max_left n m) _ _ _ _ e1]
    exact codeE_le (Nat.le_max_right n m) _ _ _ _ e2
  | exit id => exact ⟨n + 1, _, fr1, h1, by show thenE (codeE T n b) (codeE T n a fr h) = _; rw [e1]; rfl, hq⟩
  | ret => exact ⟨n + 1, _, fr1, h1, by show thenE (codeE T n b) (codeE T n a fr h) = _; rw [e1]; rfl, hq⟩
theorem WC.cond {x : MX} {a b : MC} {t : Bool} (hx : ev fr x = .r (.v (.b t))) (ha : t = true → WC T a fr h Q) (hb : t = false → WC T b fr h Q) : WC T (.cond x a b) fr h Q := by
  cases t with
  | true =>
    obtain ⟨n, x2, fr2, h2, e2, hq2⟩ := ha rfl
    refine ⟨n + 1, x2, fr2, h2, ?_, hq2⟩
    show condE (codeE T n a fr h) (codeE T n b fr h) (ev fr x) = _
    rw [hx]
    exact e2
  | false =>
    obtain ⟨n, x2, fr2, h2, e2, hq2⟩ := hb rfl
    refine ⟨n + 1, x2, fr2, h2, ?_, hq2⟩
    show condE (codeE T n a fr h) (codeE T n b fr h) (ev fr x) = _
    rw [hx]
    exact e2
def blkQ (id : Nat) (Q : Ex → Fr → HS → Prop) : Ex → Fr → HS → Prop
  | .exit j, fr, h => if j = id then Q .normal fr h else Q (.exit j) fr h
  | x, fr, h => Q x fr h
theorem WC.blk {id : Nat} {b : MC} (hb : WC T b fr h (blkQ id Q)) : WC T (.blk id b) fr h Q := by
  obtain ⟨n, x, fr1, h1, e1, hq⟩ := hb
  have e2 : codeE T (n + 1) (.blk id b) fr h = blkE id (some (x, fr1, h1)) := by
    show blkE id (codeE T n b fr h) = _
    rw [e1]
  cases x with
  | normal => exact ⟨n + 1, _, _, _, e2, hq⟩
  | ret => exact ⟨n + 1, _, _, _, e2, hq⟩
  | exit j =>
    by_cases hj : j = id
    · subst hj
      refine ⟨n + 1, .normal, fr1, h1, ?_, by simpa [blkQ] using hq⟩
      rw [e2]
      simp [blkE, natBeq]
    · refine ⟨n + 1, .exit j, fr1, h1, ?_, by simpa [blkQ, hj] using hq⟩
      rw [e2]
      simp [blkE, natBeq, hj]
/-- A loop: one round, and on. -/
theorem WC.round {b : MC} (hb : WC T b fr h (thenQ (fun fr h => WC T (.loop b) fr h Q) Q)) : WC T (.loop b) fr h Q := by
  obtain ⟨n, x, fr1, h1, e1, hq⟩ := hb
  cases x with
  | normal =>
    obtain ⟨m, x2, fr2, h2, e2, hq2⟩ := hq
    refine ⟨max n m + 1, x2, fr2, h2, ?_, hq2⟩
    show thenE (codeE T (max n m) (.loop b)) (codeE T (max n m) b fr h) = _
    rw [codeE_le (Nat.le_max_left n m) _ _ _ _ e1]
    exact codeE_le (Nat.le_max_right n m) _ _ _ _ e2
  | exit id => exact ⟨n + 1, _, fr1, h1, by show thenE (codeE T n (.loop b)) (codeE T n b fr h) = _; rw [e1]; rfl, hq⟩
  | ret => exact ⟨n + 1, _, fr1, h1, by show thenE (codeE T n (.loop b)) (codeE T n b fr h) = _; rw [e1]; rfl, hq⟩
/-- A loop by a relation and a measure. -/
theorem WC.loop {b : MC} (I : Nat → Fr → HS → Prop) (k : Nat) (h0 : I k fr h) (hr : ∀ k fr h, I k fr h → WC T b fr h (thenQ (fun fr h => ∃ j, j < k ∧ I j fr h) Q)) : WC T (.loop b) fr h Q := by
  have key : ∀ k fr h, I k fr h → WC T (.loop b) fr h Q := by
    intro k
    induction k using Nat.strongRecOn with
    | _ k ih =>
      intro fr h hi
      refine WC.round ((hr k fr h hi).mono fun x fr' h' hq => ?_)
      cases x with
      | normal => obtain ⟨j, hj, hij⟩ := hq; exact ih j hj fr' h' hij
      | exit id => exact hq
      | ret => exact hq
  exact key k fr h h0
/-- A function by its body. -/
theorem WF.body {f : Nat} {xs : List AV} {mf : MFun} (hT : T f = some mf) (hl : Nat.ble xs.length mf.nt = true) (hb : WC T mf.body (frOf xs 0 .nil) h fun x fr' h' => (∀ id, x ≠ .exit id) ∧ ∃ l, resE fr' h'.get mf.res = some l ∧ V (packR l) h') : WF T f xs h V := by
  obtain ⟨n, x, fr', h', e, hx, l, hl2, hv⟩ := hb
  refine ⟨n, packR l, h', ?_, hv⟩
  show funF T (codeE T n) f xs h = _
  unfold funF
  rw [hT]
  simp only [hl, cond_true, e]
  cases x with
  | exit id => exact absurd rfl (hx id)
  | normal => show (resE fr' h'.get mf.res).map _ = _; rw [hl2]; rfl
  | ret => show (resE fr' h'.get mf.res).map _ = _; rw [hl2]; rfl
end
end Go.Proofs.Ytaijmekhfleciaa.Am
