/- Runs over frames that are functions: the rules. -/
import Derived.Test.YtaijmekhfleciaaAmEnv
set_option linter.unusedVariables false
set_option linter.unusedSimpArgs false
namespace Go.Proofs.Ytaijmekhfleciaa.Am
open Go
/-- A piece of code's run ends, and so, whatever the frame that reads so. -/
structure WN (T : Nat → Option MFun) (c : MC) (e : Env) (h : HS) (Q : Ex → Env → HS → Prop) : Prop where
  mk :: run : ∀ fr, gets fr = e → WC T c fr h fun x fr' h' => Q x (gets fr') h'
structure WL (T : Nat → Option MFun) (l : List MOr) (e : Env) (h : HS) (R : Env → HS → Prop) : Prop where
  mk :: run : ∀ fr, gets fr = e → WR T l fr h fun fr' h' => R (gets fr') h'
inductive thenN (K : Env → HS → Prop) (Q : Ex → Env → HS → Prop) : Ex → Env → HS → Prop
  | norm {e h} (h1 : K e h) : thenN K Q .normal e h
  | ret {e h} (h1 : Q .ret e h) : thenN K Q .ret e h
  | exit {id e h} (h1 : Q (.exit id) e h) : thenN K Q (.exit id) e h
inductive blkN (id : Nat) (Q : Ex → Env → HS → Prop) : Ex → Env → HS → Prop
  | norm {e h} (h1 : Q .normal e h) : blkN id Q .normal e h
  | ret {e h} (h1 : Q .ret e h) : blkN id Q .ret e h
  | hit {j e h} (hj : Nat.beq j id = true) (h1 : Q .normal e h) : blkN id Q (.exit j) e h
  | miss {j e h} (hj : Nat.beq j id = false) (h1 : Q (.exit j) e h) : blkN id Q (.exit j) e h
noncomputable def resN (e : Env) (g : Nat → Option Blk) : List MRes → Option (List AR)
  | [] => some []
  | .tmp t :: l =>
    match e t, resN e g l with
    | .r x, some r => some (x :: r)
    | _, _ => none
  | .cell a n :: l =>
    match loadG g n (e a), resN e g l with
    | some (.r x), some r => some (x :: r)
    | _, _ => none
section
variable {T : Nat → Option MFun} {e : Env} {h : HS} {Q : Ex → Env → HS → Prop} {R : Env → HS → Prop} {V : AV → HS → Prop}
theorem res_N0 (fr : Fr) (g : Nat → Option Blk) : ∀ l, resE fr g l = resN (gets fr) g l
  | [] => rfl
  | .tmp t :: l => by simp only [resE, resN, res_N0 fr g l]; rfl
  | .cell a n :: l => by simp only [resE, resN, res_N0 fr g l]; rfl
theorem res_N {fr : Fr} (hf : gets fr = e) (g : Nat → Option Blk) (l : List MRes) : resE fr g l = resN e g l := by
  subst hf; exact res_N0 fr g l
/-- A frame that reads so at t. -/
theorem upd_same (e : Env) (t : Nat) {v : AV} (h : e t = v) : e = upd e t v := by
  funext k
  unfold upd
  rw [natBeq]
  by_cases hk : k = t
  · rw [decide_eq_true hk, hk, h]; rfl
  · rw [decide_eq_false hk]; rfl
theorem WN.mono {c : MC} {Q' : Ex → Env → HS → Prop} (hw : WN T c e h Q) (hi : ∀ x e' h', Q x e' h' → Q' x e' h') : WN T c e h Q' :=
  .mk fun fr hf => (hw.run fr hf).mono fun x fr' h' q => hi _ _ _ q
theorem WL.nil (hr : R e h) : WL T [] e h R := .mk fun fr hf => WR.nil (by subst hf; exact hr)
theorem WL.q {d : Option Nat} {q : QOp} {l : List MOr} {v : AV} (hq : qN q e = some v) (hl : WL T l (updO e d v) h R) : WL T (⟨d, .q q, none⟩ :: l) e h R :=
  .mk fun fr hf => WR.cons rfl (WO.q ((q_N hf q).trans hq) (hl.run _ (putD_N hf d v)))
theorem WL.mv {d : Option Nat} {x : MX} {l : List MOr} {v : AV} (hx : evN e x = v) (hl : WL T l (updO e d v) h R) : WL T (⟨d, .q (.mv x), none⟩ :: l) e h R := WL.q (congrArg some hx) hl
theorem WL.l {d : Option Nat} {n : Option Nat} {a : MX} {l : List MOr} {v : AV} (hq : loadG h.get n (evN e a) = some v) (hl : WL T l (updO e d v) h R) : WL T (⟨d, .l n a, none⟩ :: l) e h R :=
  .mk fun fr hf => WR.cons rfl (WO.l (by rw [ev_N hf a]; exact hq) (hl.run _ (putD_N hf d v)))
theorem WL.n {d : Option Nat} {o : NOp} {l : List MOr} {b : Blk} {v : AV} (hq : nN o e h.nx = some (b, v)) (hl : WL T l (updO e d v) (h.new b) R) : WL T (⟨d, .n o, none⟩ :: l) e h R :=
  .mk fun fr hf => WR.cons rfl (WO.n ((n_N hf o h.nx).trans hq) (hl.run _ (putD_N hf d v)))
theorem WL.c {d : Option Nat} {o : COp} {l : List MOr} {v : AV} {h' : HS} (hq : cN o e h = some (v, h')) (hl : WL T l (updO e d v) h' R) : WL T (⟨d, .c o, none⟩ :: l) e h R :=
  .mk fun fr hf => WR.cons rfl (WO.c (c_N hf hq) (hl.run _ (putD_N hf d v)))
theorem WL.call {d : Option Nat} {f : Nat} {xs : List MX} {l : List MOr} (hc : WF T f (evsN e xs) h fun v h' => WL T l (updO e d v) h' R) : WL T (⟨d, .c (.cals f xs), none⟩ :: l) e h R :=
  .mk fun fr hf => WR.cons rfl (WO.cals (by rw [evs_N hf]; exact hc.mono fun v h' q => q.run _ (putD_N hf d v)))
theorem WL.calv {d : Option Nat} {x : MX} {xs : List MX} {l : List MOr} {f : Nat} {ps cs : List (Nat × Nat)} (hx : evN e x = .r (.v (.f f ps cs))) (hc : WF T f (ptrArgs ps ++ (evsN e xs ++ ptrArgs cs)) h fun v h' => WL T l (updO e d v) h' R) : WL T (⟨d, .c (.calv x xs), none⟩ :: l) e h R :=
  .mk fun fr hf => WR.cons rfl (WO.calv ((ev_N hf x).trans hx) (by rw [evs_N hf]; exact hc.mono fun v h' q => q.run _ (putD_N hf d v)))
/-- Guarded operations. -/
theorem WL.go {d : Option Nat} {op : MOp} {t : Nat} {w : Bool} {l : List MOr} (hw : isB w (e t) = true) (hl : WL T (⟨d, op, none⟩ :: l) e h R) : WL T (⟨d, op, some (t, w)⟩ :: l) e h R := by
  refine .mk fun fr hf => ?_
  obtain ⟨n, fr', h', e1, hr⟩ := hl.run fr hf
  refine ⟨n, fr', h', ?_, hr⟩
  rw [← e1, regE_cons, regE_cons]
  have : orE (funE T n) fr h ⟨d, op, some (t, w)⟩ = orE (funE T n) fr h ⟨d, op, none⟩ := by
    unfold orE
    rw [wants_N hf, show wantsN e (some (t, w)) = true from hw]
    rfl
  rw [this]
theorem WL.pass {d : Option Nat} {op : MOp} {t : Nat} {w : Bool} {l : List MOr} (hw : isB w (e t) = false) (hl : WL T l (updO e d und) h R) : WL T (⟨d, op, some (t, w)⟩ :: l) e h R :=
  .mk fun fr hf => WR.pass ((wants_N hf (some (t, w))).trans hw) (hl.run _ (putD_N hf d und))
/-- A guard is told apart. -/
theorem WL.gsplit {d : Option Nat} {op : MOp} {t : Nat} {w b : Bool} {l : List MOr} (ht : e t = .r (.v (.b b))) (h1 : b = true → WL T (⟨d, op, some (t, w)⟩ :: l) (upd e t (.r (.v (.b true)))) h R)
    (h2 : b = false → WL T (⟨d, op, some (t, w)⟩ :: l) (upd e t (.r (.v (.b false)))) h R) : WL T (⟨d, op, some (t, w)⟩ :: l) e h R := by
  cases b with
  | true =>
    have := h1 rfl
    rwa [← upd_same e t ht] at this
  | false =>
    have := h2 rfl
    rwa [← upd_same e t ht] at this
/-- A guarded operation, by what its guard is known to be. -/
structure GK (T : Nat → Option MFun) (v : AV) (d : Option Nat) (op : MOp) (t : Nat) (w : Bool) (l : List MOr) (e : Env) (h : HS) (R : Env → HS → Prop) : Prop where
  mk :: run : e t = v → WL T (⟨d, op, some (t, w)⟩ :: l) e h R
theorem WL.gW {d : Option Nat} {op : MOp} {t : Nat} {w : Bool} {l : List MOr} {v : AV} (ht : e t = v) (hk : GK T v d op t w l e h R) : WL T (⟨d, op, some (t, w)⟩ :: l) e h R := hk.run ht
section
variable {d : Option Nat} {op : MOp} {t : Nat} {l : List MOr}
theorem GK.TT (hl : WL T (⟨d, op, none⟩ :: l) e h R) : GK T (.r (.v (.b true))) d op t true l e h R := .mk fun ht => WL.go (by rw [ht]; rfl) hl
theorem GK.FF (hl : WL T (⟨d, op, none⟩ :: l) e h R) : GK T (.r (.v (.b false))) d op t false l e h R := .mk fun ht => WL.go (by rw [ht]; rfl) hl
theorem GK.TF (hl : WL T l (updO e d und) h R) : GK T (.r (.v (.b true))) d op t false l e h R := .mk fun ht => WL.pass (by rw [ht]; rfl) hl
theorem GK.FT (hl : WL T l (updO e d und) h R) : GK T (.r (.v (.b false))) d op t true l e h R := .mk fun ht => WL.pass (by rw [ht]; rfl) hl
theorem GK.B {w b : Bool} (h1 : b = true → WL T (⟨d, op, some (t, w)⟩ :: l) (upd e t (.r (.v (.b true)))) h R) (h2 : b = false → WL T (⟨d, op, some (t, w)⟩ :: l) (upd e t (.r (.v (.b false)))) h R) :
    GK T (.r (.v (.b b))) d op t w l e h R := .mk fun ht => WL.gsplit ht h1 h2
theorem GK.D {w : Bool} {p : Prop} [Decidable p] (h1 : p → WL T (⟨d, op, some (t, w)⟩ :: l) (upd e t (.r (.v (.b true)))) h R) (h2 : ¬ p → WL T (⟨d, op, some (t, w)⟩ :: l) (upd e t (.r (.v (.b false)))) h R) :
    GK T (.r (.v (.b (decide p)))) d op t w l e h R := .mk fun ht => WL.gsplit ht (fun hb => h1 (of_decide_eq_true hb)) (fun hb => h2 (of_decide_eq_false hb))
theorem GK.Dt {w : Bool} {p : Prop} [Decidable p] (hp : p) (h1 : WL T (⟨d, op, some (t, w)⟩ :: l) (upd e t (.r (.v (.b true)))) h R) : GK T (.r (.v (.b (decide p)))) d op t w l e h R := GK.D (fun _ => h1) (fun hn => absurd hp hn)
theorem GK.Df {w : Bool} {p : Prop} [Decidable p] (hp : ¬ p) (h1 : WL T (⟨d, op, some (t, w)⟩ :: l) (upd e t (.r (.v (.b false)))) h R) : GK T (.r (.v (.b (decide p)))) d op t w l e h R := GK.D (fun hn => absurd hn hp) (fun _ => h1)
theorem GK.E {w : Bool} {m n : Int} (h1 : m = n → WL T (⟨d, op, some (t, w)⟩ :: l) (upd e t (.r (.v (.b true)))) h R) (h2 : ¬ m = n → WL T (⟨d, op, some (t, w)⟩ :: l) (upd e t (.r (.v (.b false)))) h R) :
    GK T (.r (.v (.b (m == n)))) d op t w l e h R := .mk fun ht => WL.gsplit ht (fun hb => h1 (by simpa using hb)) (fun hb => h2 (by simpa using hb))
theorem GK.N {w : Bool} {m n : Int} (h1 : ¬ m = n → WL T (⟨d, op, some (t, w)⟩ :: l) (upd e t (.r (.v (.b true)))) h R) (h2 : m = n → WL T (⟨d, op, some (t, w)⟩ :: l) (upd e t (.r (.v (.b false)))) h R) :
    GK T (.r (.v (.b (m != n)))) d op t w l e h R := .mk fun ht => WL.gsplit ht (fun hb => h1 (by simpa using hb)) (fun hb => h2 (by simpa using hb))
end
theorem GK.isT {d : Option Nat} {op : MOp} {t : Nat} {l : List MOr} {w b : Bool} (hb : b = true) (h1 : WL T (⟨d, op, some (t, w)⟩ :: l) (upd e t (.r (.v (.b true)))) h R) : GK T (.r (.v (.b b))) d op t w l e h R := GK.B (fun _ => h1) (fun hn => absurd (hb.symm.trans hn) (by simp))
theorem GK.isF {d : Option Nat} {op : MOp} {t : Nat} {l : List MOr} {w b : Bool} (hb : b = false) (h1 : WL T (⟨d, op, some (t, w)⟩ :: l) (upd e t (.r (.v (.b false)))) h R) : GK T (.r (.v (.b b))) d op t w l e h R := GK.B (fun hn => absurd (hb.symm.trans hn) (by simp)) (fun _ => h1)
theorem GK.Et {d : Option Nat} {op : MOp} {t : Nat} {l : List MOr} {w : Bool} {m n : Int} (hp : m = n) (h1 : WL T (⟨d, op, some (t, w)⟩ :: l) (upd e t (.r (.v (.b true)))) h R) : GK T (.r (.v (.b (m == n)))) d op t w l e h R := GK.E (fun _ => h1) (fun hn => absurd hp hn)
theorem GK.Ef {d : Option Nat} {op : MOp} {t : Nat} {l : List MOr} {w : Bool} {m n : Int} (hp : ¬ m = n) (h1 : WL T (⟨d, op, some (t, w)⟩ :: l) (upd e t (.r (.v (.b false)))) h R) : GK T (.r (.v (.b (m == n)))) d op t w l e h R := GK.E (fun hn => absurd hn hp) (fun _ => h1)
theorem GK.Nt {d : Option Nat} {op : MOp} {t : Nat} {l : List MOr} {w : Bool} {m n : Int} (hp : ¬ m = n) (h1 : WL T (⟨d, op, some (t, w)⟩ :: l) (upd e t (.r (.v (.b true)))) h R) : GK T (.r (.v (.b (m != n)))) d op t w l e h R := GK.N (fun _ => h1) (fun hn => absurd hn hp)
theorem GK.Nf {d : Option Nat} {op : MOp} {t : Nat} {l : List MOr} {w : Bool} {m n : Int} (hp : m = n) (h1 : WL T (⟨d, op, some (t, w)⟩ :: l) (upd e t (.r (.v (.b false)))) h R) : GK T (.r (.v (.b (m != n)))) d op t w l e h R := GK.N (fun hn => absurd hp hn) (fun _ => h1)
theorem WN.skip (hq : Q .normal e h) : WN T .skip e h Q := .mk fun fr hf => WC.skip (by subst hf; exact hq)
theorem WN.ret (hq : Q .ret e h) : WN T .ret e h Q := .mk fun fr hf => WC.ret (by subst hf; exact hq)
theorem WN.exit {id : Nat} (hq : Q (.exit id) e h) : WN T (.exit id) e h Q := .mk fun fr hf => WC.exit (by subst hf; exact hq)
theorem WN.reg {l : List MOr} (hl : WL T l e h fun e' h' => Q .normal e' h') : WN T (.reg l) e h Q := .mk fun fr hf => WC.reg (hl.run fr hf)
theorem WN.seq {a b : MC} (ha : WN T a e h (thenN (fun e h => WN T b e h Q) Q)) : WN T (.seq a b) e h Q := by
  refine .mk fun fr hf => WC.seq ((ha.run fr hf).mono fun x fr' h' q => ?_)
  cases q with
  | norm q => exact q.run fr' rfl
  | exit q => exact q
  | ret q => exact q
theorem WN.cond {x : MX} {a b : MC} {t : Bool} (hx : evN e x = .r (.v (.b t))) (ha : t = true → WN T a e h Q) (hb : t = false → WN T b e h Q) : WN T (.cond x a b) e h Q :=
  .mk fun fr hf => WC.cond ((ev_N hf x).trans hx) (fun ht => (ha ht).run fr hf) (fun ht => (hb ht).run fr hf)
/-- A branch, by what its condition is known to be. -/
structure CK (T : Nat → Option MFun) (v : AV) (a b : MC) (e : Env) (h : HS) (Q : Ex → Env → HS → Prop) : Prop where
  mk :: run : ∀ x, evN e x = v → WN T (.cond x a b) e h Q
theorem WN.condW {x : MX} {a b : MC} {v : AV} (hx : evN e x = v) (hk : CK T v a b e h Q) : WN T (.cond x a b) e h Q := hk.run x hx
theorem CK.B {a b : MC} {t : Bool} (ha : t = true → WN T a e h Q) (hb : t = false → WN T b e h Q) : CK T (.r (.v (.b t))) a b e h Q := .mk fun x hx => WN.cond hx ha hb
theorem CK.Y {a b : MC} (ha : WN T a e h Q) : CK T (.r (.v (.b true))) a b e h Q := .mk fun x hx => WN.cond hx (fun _ => ha) (fun ht => absurd ht (by simp))
theorem CK.Z {a b : MC} (hb : WN T b e h Q) : CK T (.r (.v (.b false))) a b e h Q := .mk fun x hx => WN.cond hx (fun ht => absurd ht (by simp)) (fun _ => hb)
theorem CK.D {a b : MC} {p : Prop} [Decidable p] (ha : p → WN T a e h Q) (hb : ¬ p → WN T b e h Q) : CK T (.r (.v (.b (decide p)))) a b e h Q :=
  .mk fun x hx => WN.cond hx (fun ht => ha (of_decide_eq_true ht)) (fun ht => hb (of_decide_eq_false ht))
theorem CK.E {a b : MC} {m n : Int} (ha : m = n → WN T a e h Q) (hb : ¬ m = n → WN T b e h Q) : CK T (.r (.v (.b (m == n)))) a b e h Q :=
  .mk fun x hx => WN.cond hx (fun ht => ha (by simpa using ht)) (fun ht => hb (by simpa using ht))
theorem CK.N {a b : MC} {m n : Int} (ha : ¬ m = n → WN T a e h Q) (hb : m = n → WN T b e h Q) : CK T (.r (.v (.b (m != n)))) a b e h Q :=
  .mk fun x hx => WN.cond hx (fun ht => ha (by simpa using ht)) (fun ht => hb (by simpa using ht))
theorem CK.isT {a b : MC} {t : Bool} (hb : t = true) (ha : WN T a e h Q) : CK T (.r (.v (.b t))) a b e h Q := CK.B (fun _ => ha) (fun hn => absurd (hb.symm.trans hn) (by simp))
theorem CK.isF {a b : MC} {t : Bool} (hb : t = false) (ha : WN T b e h Q) : CK T (.r (.v (.b t))) a b e h Q := CK.B (fun hn => absurd (hb.symm.trans hn) (by simp)) (fun _ => ha)
theorem CK.Dt {a b : MC} {p : Prop} [Decidable p] (hp : p) (ha : WN T a e h Q) : CK T (.r (.v (.b (decide p)))) a b e h Q := CK.D (fun _ => ha) (fun hn => absurd hp hn)
theorem CK.Df {a b : MC} {p : Prop} [Decidable p] (hp : ¬ p) (hb : WN T b e h Q) : CK T (.r (.v (.b (decide p)))) a b e h Q := CK.D (fun hn => absurd hn hp) (fun _ => hb)
theorem CK.Et {a b : MC} {m n : Int} (hp : m = n) (ha : WN T a e h Q) : CK T (.r (.v (.b (m == n)))) a b e h Q := CK.E (fun _ => ha) (fun hn => absurd hp hn)
theorem CK.Ef {a b : MC} {m n : Int} (hp : ¬ m = n) (hb : WN T b e h Q) : CK T (.r (.v (.b (m == n)))) a b e h Q := CK.E (fun hn => absurd hn hp) (fun _ => hb)
theorem CK.Nt {a b : MC} {m n : Int} (hp : ¬ m = n) (ha : WN T a e h Q) : CK T (.r (.v (.b (m != n)))) a b e h Q := CK.N (fun _ => ha) (fun hn => absurd hn hp)
theorem CK.Nf {a b : MC} {m n : Int} (hp : m = n) (hb : WN T b e h Q) : CK T (.r (.v (.b (m != n)))) a b e h Q := CK.N (fun hn => absurd hp hn) (fun _ => hb)
theorem CK.not {a b : MC} {t : Bool} (hk : CK T (.r (.v (.b t))) b a e h Q) : CK T (.r (.v (.b (!t)))) a b e h Q := by
  refine .mk fun x hx => .mk fun fr hf => ?_
  obtain ⟨n, y, fr', h', e1, hq⟩ := (hk.run (.c (.r (.v (.b t)))) rfl).run fr hf
  refine ⟨n, y, fr', h', ?_, hq⟩
  cases n with
  | zero => exact absurd e1 (by simp [codeE])
  | succ n =>
    have e2 : condE (codeE T n b fr h) (codeE T n a fr h) (.r (.v (.b t))) = some (y, fr', h') := e1
    show condE (codeE T n a fr h) (codeE T n b fr h) (ev fr x) = _
    rw [ev_N hf x, hx, ← e2]
    cases t <;> rfl
theorem WN.blk {id : Nat} {b : MC} (hb : WN T b e h (blkN id Q)) : WN T (.blk id b) e h Q := by
  refine .mk fun fr hf => WC.blk ((hb.run fr hf).mono fun x fr' h' q => ?_)
  cases q with
  | norm q => exact q
  | ret q => exact q
  | hit hj q =>
    rename_i j
    show if j = id then _ else _
    rw [natBeq, decide_eq_true_eq] at hj
    rw [if_pos hj]
    exact q
  | miss hj q =>
    rename_i j
    show if j = id then _ else _
    rw [natBeq, decide_eq_false_iff_not] at hj
    rw [if_neg hj]
    exact q
/-- A loop: one round, and on. -/
theorem WN.round {b : MC} (hb : WN T b e h (thenN (fun e h => WN T (.loop b) e h Q) Q)) : WN T (.loop b) e h Q := by
  refine .mk fun fr hf => WC.round ((hb.run fr hf).mono fun x fr' h' q => ?_)
  cases q with
  | norm q => exact q.run fr' rfl
  | exit q => exact q
  | ret q => exact q
/-- A loop by a relation and a measure. -/
theorem WN.loop {b : MC} (I : Nat → Env → HS → Prop) (k : Nat) (h0 : I k e h) (hr : ∀ k e h, I k e h → WN T b e h (thenN (fun e h => ∃ j, j < k ∧ I j e h) Q)) : WN T (.loop b) e h Q := by
  have key : ∀ k e h, I k e h → WN T (.loop b) e h Q := by
    intro k
    induction k using Nat.strongRecOn with
    | _ k ih =>
      intro e h hi
      refine WN.round ((hr k e h hi).mono fun x e' h' hq => ?_)
      cases hq with
      | norm hq => obtain ⟨j, hj, hij⟩ := hq; exact .norm (ih j hj e' h' hij)
      | exit hq => exact .exit hq
      | ret hq => exact .ret hq
  exact key k e h h0
/-- A frame with some temporaries set. -/
def upds (e : Env) : List (Nat × AV) → Env
  | [] => e
  | (t, v) :: l => upd (upds e l) t v
def reads (e : Env) : List (Nat × AV) → Prop
  | [] => True
  | (t, v) :: l => e t = v ∧ reads e l
theorem upds_eq {e : Env} : ∀ {l : List (Nat × AV)}, reads e l → e = upds e l
  | [], _ => rfl
  | (t, v) :: l, h => by
    show e = upd (upds e l) t v
    rw [← upds_eq h.2]
    exact upd_same e t h.1
/-- A loop: by states that the frame reads, what holds of memory, and a measure. -/
theorem WN.loopS {b : MC} {S : Type} (m : S → Nat) (V : S → List (Nat × AV)) (J : S → HS → Prop) (s0 : S) (hv : reads e (V s0)) (h0 : J s0 h)
    (hr : ∀ s e h, J s h → WN T b (upds e (V s)) h (thenN (fun e' h' => ∃ s', m s' < m s ∧ J s' h' ∧ reads e' (V s')) Q)) : WN T (.loop b) e h Q := by
  refine WN.loop (fun k e h => ∃ s, m s = k ∧ J s h ∧ reads e (V s)) (m s0) ⟨s0, rfl, h0, hv⟩ fun k e h ⟨s, hk, hj, hv⟩ => ?_
  rw [upds_eq hv]
  refine (hr s e h hj).mono fun x e' h' q => ?_
  cases q with
  | norm q =>
    obtain ⟨s', h1, h2, h3⟩ := q
    exact .norm ⟨m s', by omega, s', rfl, h2, h3⟩
  | exit q => exact .exit q
  | ret q => exact .ret q
/-- What a body answers in the end. -/
inductive endN (res : List MRes) (V : AV → HS → Prop) : Ex → Env → HS → Prop
  | norm {e h l} (h1 : resN e h.get res = some l) (h2 : V (packR l) h) : endN res V .normal e h
  | ret {e h l} (h1 : resN e h.get res = some l) (h2 : V (packR l) h) : endN res V .ret e h
theorem WF.run {f : Nat} {xs : List AV} {nt : Nat} {res : List MRes} {body : MC} (hT : T f = some ⟨nt, res, body⟩) (hl : Nat.ble xs.length nt = true) (hb : WN T body (envOf xs 0 ev0) h (endN res V)) : WF T f xs h V := by
  refine WF.body hT hl ((hb.run (frOf xs 0 .nil) (frOf_N xs 0 (funext gets_nil))).mono fun x fr' h' q => ?_)
  cases q with
  | norm h1 h2 => exact ⟨fun id => by simp, _, (res_N rfl _ _).trans h1, h2⟩
  | ret h1 h2 => exact ⟨fun id => by simp, _, (res_N rfl _ _).trans h1, h2⟩
end
theorem endN.cell {e : Env} {h : HS} {V : AV → HS → Prop} {t : Nat} {n : Option Nat} {id off : Nat} {b : Blk} {x : AR} (hx : e t = .r (.v (.p id off))) (hb : h.get id = some b) (hv : loadB n off (some b) = some (.r x)) (h2 : V (.r x) h) : endN [.cell t n] V .ret e h := by
  refine .ret (l := [x]) ?_ h2
  simp only [resN, hx]
  show (match loadB n off (h.get id), some [] with | some (.r x), some r => some (x :: r) | _, _ => none) = _
  rw [hb, hv]
/-- A call of which only the answer is known. -/
theorem WF.orc {f : Nat} {x : AR} {V : AV → HS → Prop} {T : Nat → Option MFun} {h : HS} (hT : T f = some (orc (.r x))) (hv : V (.r x) h) : WF T f [] h V :=
  WF.run hT rfl (WN.reg (WL.mv rfl (WL.nil (.norm (l := [x]) rfl hv))))
/-! Drawn regions -/
theorem kindEq_refl (k : IntKind) : kindEq k k = true := by cases k <;> rfl
theorem intEq_refl (n : Int) : intEq n n = true := by cases n <;> simp [intEq, natBeq]
theorem pairsEq_refl : ∀ l, pairsEq l l = true
  | [] => rfl
  | (a, b) :: l => by simp [pairsEq, natBeq, pairsEq_refl l]
theorem optEq_refl (o : Option Nat) : optEq o o = true := by cases o <;> simp [optEq, natBeq]
theorem same_refl (a : AS) : a.same a = true := by
  cases a <;> simp [AS.same, kindEq_refl, intEq_refl, pairsEq_refl, optEq_refl, natBeq]
theorem listSame_refl : ∀ l, listSame l l = true
  | [] => rfl
  | a :: l => by simp [listSame, same_refl, listSame_refl l]
theorem sameO_refl (x : AR) : sameO (.r x) (some (.r x)) = true := by
  cases x <;> simp [sameO, AV.same, AR.same, same_refl, listSame_refl]
theorem loadG_r {g : Nat → Option Blk} {n : Option Nat} {a v : AV} (h : loadG g n a = some v) : ∃ x, v = .r x := by
  unfold loadG at h
  split at h
  · unfold loadB at h
    split at h
    · split at h
      · obtain ⟨x, _, rfl⟩ := map_some_inj h; exact ⟨_, rfl⟩
      · obtain ⟨x, _, rfl⟩ := map_some_inj h; exact ⟨_, rfl⟩
    · exact absurd h (by simp)
  · exact absurd h (by simp)
abbrev Tn := List (Env × HS)
noncomputable def trN (t : List (Fr × HS)) : Tn := t.map fun p => (gets p.1, p.2)
def stN (t : Tn) (i : Nat) : Env × HS := t.getD i (ev0, ⟨.nil, 0⟩)
theorem stN_tr (t : List (Fr × HS)) (i : Nat) : stN (trN t) i = (gets (stAt t i).1, (stAt t i).2) := by
  unfold stN trN stAt
  simp only [List.getD, List.getElem?_map]
  cases t[i]? with
  | none =>
    simp only [Option.map_none, Option.getD_none]
    rw [show gets Tr.nil = ev0 from funext gets_nil]
  | some p => rfl
noncomputable def chkLN (t : Tn) (k : Chk) (g : Option (Nat × Bool)) (n : Option Nat) (a : MX) : Bool :=
  cond (wantsN (stN t k.i).1 g) (match loadG (stN t k.i).2.get n (evN (stN t k.i).1 a) with
    | some v => k.cs.all (fun c => sameO v (loadG (stN t (cond (Nat.blt c k.i) c (c + 1))).2.get n (evN (stN t k.i).1 a))) &&
        k.ns.all (fun j => notId (stN t j).2.nx (evN (stN t k.i).1 a))
    | none => false) true
noncomputable def chkN (ops : List MOr) (t : Tn) (k : Chk) : Bool :=
  match ops[k.i]? with
  | some ⟨_, .l n a, g⟩ => chkLN t k g n a
  | _ => true
theorem chk_N (ops : List MOr) (t : List (Fr × HS)) (k : Chk) : chk1 ops t k = chkN ops (trN t) k := by
  have e : ∀ g n a, chkL t k g n a = chkLN (trN t) k g n a := by
    intro g n a
    unfold chkL chkLN
    simp only [stN_tr, wants_N (fr := (stAt t k.i).1) rfl, ev_N (fr := (stAt t k.i).1) rfl]
    cases loadG (stAt t k.i).2.get n (evN (gets (stAt t k.i).1) a) <;> rfl
  unfold chk1 chkN
  cases ops[k.i]? with
  | none => rfl
  | some o =>
    obtain ⟨d, op, g⟩ := o
    cases op with
    | l n a => exact e g n a
    | _ => rfl
def Chk.ne (k : Chk) : Bool := !(k.cs.isEmpty && k.ns.isEmpty)
/-- A load that nothing may overtake is as it was. -/
theorem chk_idle {call : CallE} {ops : List MOr} {fr : Fr} {h : HS} {t : List (Fr × HS)} (ht : traceE call ops fr h = some t) {k : Chk} (hk : k.ne = false) : chk1 ops t k = true := by
  unfold Chk.ne at hk
  simp only [Bool.not_eq_eq_eq_not, Bool.not_false, Bool.and_eq_true, List.isEmpty_iff] at hk
  unfold chk1
  split
  · rename_i d n a g ho
    have hs := trace_step ht k.i _ ho
    unfold chkL
    cases hw : wants (stAt t k.i).1 g with
    | false => rfl
    | true =>
      unfold orE at hs
      simp only [hw, cond_true] at hs
      obtain ⟨p, hp, _⟩ := map_some_inj hs
      have hp' : (loadG (stAt t k.i).2.get n (ev (stAt t k.i).1 a)).map _ = some p := hp
      obtain ⟨v, hv, _⟩ := map_some_inj hp'
      simp only [cond_true, hv, hk.1, hk.2, List.all_nil, Bool.and_self]
  · rfl
theorem all_cons_t {α : Type} {p : α → Bool} {a : α} {l : List α} (h1 : p a = true) (h2 : l.all p = true) : (a :: l).all p = true := by rw [List.all_cons, h1, h2]; rfl
structure WD (T : Nat → Option MFun) (l : List MOr) (e : Env) (h : HS) (R : Tn → Prop) : Prop where
  mk :: run : ∀ fr, gets fr = e → ∃ n t, traceE (funE T n) l fr h = some t ∧ R (trN t)
section
variable {T : Nat → Option MFun} {e : Env} {h : HS} {Q : Ex → Env → HS → Prop} {R : Tn → Prop}
theorem WD.nil (hr : R [(e, h)]) : WD T [] e h R := .mk fun fr hf => ⟨0, [(fr, h)], rfl, by subst hf; exact hr⟩
theorem WD.one {o : MOr} {l : List MOr} (ho : WL T [o] e h fun e' h' => WD T l e' h' fun t => R ((e, h) :: t)) : WD T (o :: l) e h R := by
  refine .mk fun fr hf => ?_
  obtain ⟨n, fr', h', e1, hw⟩ := ho.run fr hf
  obtain ⟨m, t, e2, hr⟩ := hw.run fr' rfl
  refine ⟨max n m, (fr, h) :: t, ?_, by subst hf; exact hr⟩
  have e3 : orE (funE T n) fr h o = some (fr', h') := by
    rw [regE_cons] at e1
    split at e1
    · rename_i p hp
      rw [regE_nil] at e1
      injection e1 with e1
      rw [hp, ← e1]
    · exact absurd e1 (by simp)
  simp only [traceE, orE_le (funE_le (Nat.le_max_left n m)) e3, traceE_le (funE_le (Nat.le_max_right n m)) e2, Option.map_some]
/-- A drawn region. -/
theorem WN.drw {l : List MOr} {ks : List Chk} (hd : WD T l e h fun t => (ks.filter Chk.ne).all (chkN l t) = true ∧ Q .normal (stN t l.length).1 (stN t l.length).2) : WN T (.drw l ks) e h Q := by
  refine .mk fun fr hf => ?_
  obtain ⟨n, t, e1, hk, hq⟩ := hd.run fr hf
  rw [stN_tr] at hq
  refine ⟨n + 1, .normal, (stAt t l.length).1, (stAt t l.length).2, ?_, hq⟩
  show nrm (drwE (funE T n) l ks fr h) = _
  unfold drwE
  rw [e1]
  have : ks.all (chk1 l t) = true := by
    rw [List.all_eq_true] at hk ⊢
    intro k hkk
    cases hne : k.ne with
    | false => exact chk_idle e1 hne
    | true => rw [chk_N]; exact hk k (List.mem_filter.2 ⟨hkk, hne⟩)
  simp only [this, cond_true]
  rfl
/-- A drawn region in which no load can be overtaken. -/
theorem WN.drw0 {l : List MOr} {ks : List Chk} (hk : ks.all (fun k => !k.ne) = true) (hl : WL T l e h fun e' h' => Q .normal e' h') : WN T (.drw l ks) e h Q := by
  refine .mk fun fr hf => ?_
  obtain ⟨n, fr', h', e1, hq⟩ := hl.run fr hf
  refine ⟨n + 1, .normal, fr', h', ?_, hq⟩
  show nrm (drwE (funE T n) l ks fr h) = _
  have key : ∀ (l : List MOr) (fr : Fr) (h : HS), regE (funE T n) l fr h = some (fr', h') → ∃ t, traceE (funE T n) l fr h = some t ∧ stAt t l.length = (fr', h') := by
    intro l
    induction l with
    | nil => intro fr h e1; rw [regE_nil] at e1; injection e1 with e1; exact ⟨[(fr, h)], rfl, e1⟩
    | cons o l ih =>
      intro fr h e1
      rw [regE_cons] at e1
      split at e1
      · rename_i p hp
        obtain ⟨t, ht, hs⟩ := ih _ _ e1
        refine ⟨(fr, h) :: t, ?_, ?_⟩
        · simp only [traceE, hp, ht, Option.map_some]
        · simpa [stAt] using hs
      · exact absurd e1 (by simp)
  obtain ⟨t, ht, hs⟩ := key l fr h e1
  unfold drwE
  rw [ht]
  have : ks.all (chk1 l t) = true := by
    rw [List.all_eq_true] at hk ⊢
    intro k hkk
    have := hk k hkk
    simp at this
    exact chk_idle ht this
  simp only [this, cond_true, hs]
  rfl
theorem chkN_ok {ops : List MOr} {t : Tn} {k : Chk} {d n : Option Nat} {a : MX} {g : Option (Nat × Bool)} (ho : ops[k.i]? = some ⟨d, .l n a, g⟩)
    (hc : wantsN (stN t k.i).1 g = true → ∃ v, loadG (stN t k.i).2.get n (evN (stN t k.i).1 a) = some v ∧ (∀ c ∈ k.cs, loadG (stN t (cond (Nat.blt c k.i) c (c + 1))).2.get n (evN (stN t k.i).1 a) = some v) ∧
      ∀ j ∈ k.ns, notId (stN t j).2.nx (evN (stN t k.i).1 a) = true) : chkN ops t k = true := by
  unfold chkN
  rw [ho]
  show chkLN t k g n a = true
  unfold chkLN
  cases hw : wantsN (stN t k.i).1 g with
  | false => rfl
  | true =>
    obtain ⟨v, h1, h2, h3⟩ := hc hw
    obtain ⟨x, rfl⟩ := loadG_r h1
    simp only [cond_true, h1, Bool.and_eq_true, List.all_eq_true]
    exact ⟨fun c hcc => by rw [h2 c hcc]; exact sameO_refl x, h3⟩
end
end Go.Proofs.Ytaijmekhfleciaa.Am
