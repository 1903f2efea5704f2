/- The relation between the small machine's values, heaps and frames and the model's, and its first laws. -/
import Derived.Test.YtaijmekhfleciaaAmComp
set_option linter.unusedVariables false
set_option linter.unusedSimpArgs false
namespace Go.Proofs.Ytaijmekhfleciaa.Am
open Go

/-! Tries -/
section
variable {α : Type}
theorem get_nil (k : Nat) : (Tr.nil : Tr α).get k = none := rfl
theorem get_nd (v : Option α) (l r : Tr α) (k : Nat) : (Tr.nd v l r).get k = cond (Nat.beq k 0) v (cond (Nat.beq (k % 2) 1) (l.get (k / 2)) (r.get (k / 2 - 1))) := rfl
theorem setF_nil (n k : Nat) (x : Option α) : Tr.setF (n + 1) (.nil : Tr α) k x = setNil (Tr.setF n) k x := rfl
theorem setF_nd (n k : Nat) (x v : Option α) (l r : Tr α) : Tr.setF (n + 1) (.nd v l r) k x = setNd (Tr.setF n) k x v l r := rfl
theorem key_cases (k : Nat) : k = 0 ∨ (k ≠ 0 ∧ k % 2 = 1) ∨ (k ≠ 0 ∧ k % 2 = 0) := by omega
theorem beq0 {k : Nat} (h : k ≠ 0) : Nat.beq k 0 = false := by
  cases k with
  | zero => exact absurd rfl h
  | succ n => rfl
theorem get_setF : ∀ (n : Nat) (t : Tr α) (k j : Nat) (x : Option α), k < n → (Tr.setF n t k x).get j = if j = k then x else t.get j := by
  intro n
  induction n with
  | zero => intro t k j x h; omega
  | succ n ih =>
    intro t k j x h
    have hk := key_cases k
    have hj := key_cases j
    cases t with
    | nil =>
      rw [setF_nil, get_nil]
      unfold setNil
      rcases hk with rfl | ⟨hk0, hk2⟩ | ⟨hk0, hk2⟩
      · simp only [Nat.beq, cond_true, get_nd]
        by_cases hj0 : j = 0
        · simp [hj0]
        · simp [beq0 hj0, hj0, get_nil, cond]
          split <;> rfl
      · rw [beq0 hk0, show Nat.beq (k % 2) 1 = true by rw [hk2]; rfl]
        simp only [cond_true, cond_false, get_nd, get_nil, ih _ _ _ _ (show k / 2 < n by omega)]
        rcases hj with rfl | ⟨hj0, hj2⟩ | ⟨hj0, hj2⟩
        · simp [Nat.beq]; omega
        · rw [beq0 hj0, show Nat.beq (j % 2) 1 = true by rw [hj2]; rfl]
          simp only [cond_true, cond_false]
          by_cases e : j = k
          · simp [e]
          · rw [if_neg (show ¬ (j / 2 = k / 2) by omega), if_neg e]
        · rw [beq0 hj0, show Nat.beq (j % 2) 1 = false by rw [hj2]; rfl]
          simp only [cond_false]
          rw [if_neg (by omega)]
      · rw [beq0 hk0, show Nat.beq (k % 2) 1 = false by rw [hk2]; rfl]
        simp only [cond_true, cond_false, get_nd, get_nil, ih _ _ _ _ (show k / 2 - 1 < n by omega)]
        rcases hj with rfl | ⟨hj0, hj2⟩ | ⟨hj0, hj2⟩
        · simp [Nat.beq]; omega
        · rw [beq0 hj0, show Nat.beq (j % 2) 1 = true by rw [hj2]; rfl]
          simp only [cond_true, cond_false]
          rw [if_neg (by omega)]
        · rw [beq0 hj0, show Nat.beq (j % 2) 1 = false by rw [hj2]; rfl]
          simp only [cond_false]
          by_cases e : j = k
          · simp [e]
          · rw [if_neg (show ¬ (j / 2 - 1 = k / 2 - 1) by omega), if_neg e]
    | nd v l r =>
      rw [setF_nd, get_nd]
      unfold setNd
      rcases hk with rfl | ⟨hk0, hk2⟩ | ⟨hk0, hk2⟩
      · simp only [Nat.beq, cond_true, get_nd]
        by_cases hj0 : j = 0
        · simp [hj0]
        · simp [beq0 hj0, hj0]
      · rw [beq0 hk0, show Nat.beq (k % 2) 1 = true by rw [hk2]; rfl]
        simp only [cond_true, cond_false, get_nd, ih _ _ _ _ (show k / 2 < n by omega)]
        rcases hj with rfl | ⟨hj0, hj2⟩ | ⟨hj0, hj2⟩
        · simp [Nat.beq]; omega
        · rw [beq0 hj0, show Nat.beq (j % 2) 1 = true by rw [hj2]; rfl]
          simp only [cond_true, cond_false]
          by_cases e : j = k
          · simp [e]
          · rw [if_neg (show ¬ (j / 2 = k / 2) by omega), if_neg e]
        · rw [beq0 hj0, show Nat.beq (j % 2) 1 = false by rw [hj2]; rfl]
          simp only [cond_false]
          rw [if_neg (by omega)]
      · rw [beq0 hk0, show Nat.beq (k % 2) 1 = false by rw [hk2]; rfl]
        simp only [cond_true, cond_false, get_nd, ih _ _ _ _ (show k / 2 - 1 < n by omega)]
        rcases hj with rfl | ⟨hj0, hj2⟩ | ⟨hj0, hj2⟩
        · simp [Nat.beq]; omega
        · rw [beq0 hj0, show Nat.beq (j % 2) 1 = true by rw [hj2]; rfl]
          simp only [cond_true, cond_false]
          rw [if_neg (by omega)]
        · rw [beq0 hj0, show Nat.beq (j % 2) 1 = false by rw [hj2]; rfl]
          simp only [cond_false]
          by_cases e : j = k
          · simp [e]
          · rw [if_neg (show ¬ (j / 2 - 1 = k / 2 - 1) by omega), if_neg e]
theorem get_set (t : Tr α) (k j : Nat) (x : Option α) : (t.set k x).get j = if j = k then x else t.get j := get_setF (k + 1) t k j x (by omega)
end
theorem gets_sets (fr : Fr) (n m : Nat) (v : AV) : gets (sets fr n v) m = if m = n then v else gets fr m := by
  unfold gets sets
  rw [get_set]
  split <;> rfl
theorem gets_nil (m : Nat) : gets .nil m = und := rfl

/-! Values -/
/-- Of an abstract block: the concrete one, where it begins there, how many cells that one has. -/
abbrev Rho := Nat → Option (Nat × Nat × Nat)
def RP (ρ : Rho) (id off : Nat) (v : Value) : Prop := ∃ cb base tot, ρ id = some (cb, base, tot) ∧ v = .pointer (some ⟨cb, base + off, none⟩)
def RPs (ρ : Rho) : List (Nat × Nat) → List Value → Prop
  | [], [] => True
  | (a, b) :: l, v :: m => RP ρ a b v ∧ RPs ρ l m
  | _, _ => False
def RS (ρ : Rho) : AS → Value → Prop
  | .b x, v => v = .bool x
  | .i k n, v => v = .int k n
  | .s x, v => v = .string x
  | .p id off, v => RP ρ id off v
  | .np, v => v = .pointer none
  | .sl id off len cap sz, v => ∃ cb base tot o c, ρ id = some (cb, base, tot) ∧ v = .slice (some ⟨cb, o, none⟩) len c ∧ len ≤ c ∧ (0 < c → o = base + off) ∧ (∀ k, cap = some k → c = k) ∧ (cap = none → 0 < c → o + c * sz ≤ tot)
  | .nsl, v => v = .slice none 0 0
  | .f fn fs cs, v => ∃ a c : List Value, v = .func (.func fn) a.toArray c.toArray ∧ RPs ρ fs a ∧ RPs ρ cs c
  | .nf, v => v = .nilFunc
  | .ni, v => v = .nilIface
  | .m id, v => ∃ cb base tot, ρ id = some (cb, base, tot) ∧ v = .map (some cb)
  | .nm, v => v = .map none
def RL (ρ : Rho) : List AS → List Value → Prop
  | [], [] => True
  | a :: l, v :: m => RS ρ a v ∧ RL ρ l m
  | _, _ => False
def RR (ρ : Rho) : AR → Value → Prop
  | .v a, v => RS ρ a v
  | .g l, v => ∃ cs : List Value, v = .agg cs.toArray ∧ RL ρ l cs
def RRs (ρ : Rho) : List AR → List Value → Prop
  | [], [] => True
  | a :: l, v :: m => RR ρ a v ∧ RRs ρ l m
  | _, _ => False
def RV (ρ : Rho) : AV → Value → Prop
  | .r x, v => RR ρ x v
  | .t l, v => ∃ vs : List Value, v = .tuple vs.toArray ∧ RRs ρ l vs
def RVs (ρ : Rho) : List AV → List Value → Prop
  | [], [] => True
  | a :: l, v :: m => RV ρ a v ∧ RVs ρ l m
  | _, _ => False
def Ext (ρ ρ' : Rho) : Prop := ∀ id x, ρ id = some x → ρ' id = some x
theorem Ext.refl (ρ : Rho) : Ext ρ ρ := fun _ _ h => h
theorem Ext.trans {a b c : Rho} (h : Ext a b) (k : Ext b c) : Ext a c := fun id x e => k id x (h id x e)
section
variable {ρ ρ' : Rho}
theorem RP.mono (h : Ext ρ ρ') {a b : Nat} {v : Value} : RP ρ a b v → RP ρ' a b v := fun ⟨cb, base, tot, e, hv⟩ => ⟨cb, base, tot, h _ _ e, hv⟩
theorem RPs.mono (h : Ext ρ ρ') : ∀ {l : List (Nat × Nat)} {m : List Value}, RPs ρ l m → RPs ρ' l m
  | [], [], _ => trivial
  | (a, b) :: l, v :: m, ⟨h1, h2⟩ => ⟨RP.mono h h1, RPs.mono h h2⟩
  | [], _ :: _, h => h.elim
  | _ :: _, [], h => h.elim
theorem RS.mono (h : Ext ρ ρ') {a : AS} {v : Value} (hr : RS ρ a v) : RS ρ' a v := by
  cases a with
  | p id off => exact RP.mono h hr
  | sl id off len cap sz =>
    obtain ⟨cb, base, tot, o, c, e, hh⟩ := hr
    exact ⟨cb, base, tot, o, c, h _ _ e, hh⟩
  | f fn fs cs =>
    obtain ⟨a, c, e, h1, h2⟩ := hr
    exact ⟨a, c, e, RPs.mono h h1, RPs.mono h h2⟩
  | m id =>
    obtain ⟨cb, base, tot, e, hh⟩ := hr
    exact ⟨cb, base, tot, h _ _ e, hh⟩
  | _ => exact hr
theorem RL.mono (h : Ext ρ ρ') : ∀ {l : List AS} {m : List Value}, RL ρ l m → RL ρ' l m
  | [], [], _ => trivial
  | _ :: _, _ :: _, ⟨h1, h2⟩ => ⟨RS.mono h h1, RL.mono h h2⟩
  | [], _ :: _, h => h.elim
  | _ :: _, [], h => h.elim
theorem RR.mono (h : Ext ρ ρ') {a : AR} {v : Value} (hr : RR ρ a v) : RR ρ' a v := by
  cases a with
  | v a => exact RS.mono h hr
  | g l => obtain ⟨cs, e, hl⟩ := hr; exact ⟨cs, e, RL.mono h hl⟩
theorem RRs.mono (h : Ext ρ ρ') : ∀ {l : List AR} {m : List Value}, RRs ρ l m → RRs ρ' l m
  | [], [], _ => trivial
  | _ :: _, _ :: _, ⟨h1, h2⟩ => ⟨RR.mono h h1, RRs.mono h h2⟩
  | [], _ :: _, h => h.elim
  | _ :: _, [], h => h.elim
theorem RV.mono (h : Ext ρ ρ') {a : AV} {v : Value} (hr : RV ρ a v) : RV ρ' a v := by
  cases a with
  | r x => exact RR.mono h hr
  | t l => obtain ⟨vs, e, hl⟩ := hr; exact ⟨vs, e, RRs.mono h hl⟩
theorem RVs.mono (h : Ext ρ ρ') : ∀ {l : List AV} {m : List Value}, RVs ρ l m → RVs ρ' l m
  | [], [], _ => trivial
  | _ :: _, _ :: _, ⟨h1, h2⟩ => ⟨RV.mono h h1, RVs.mono h h2⟩
  | [], _ :: _, h => h.elim
  | _ :: _, [], h => h.elim

theorem RS.one {a : AS} {v : Value} (h : RS ρ a v) : v.oneCell' = true := by
  cases a <;> simp only [RS, RP] at h
  all_goals first
    | (subst h; rfl)
    | (obtain ⟨_, _, _, _, rfl⟩ := h; rfl)
    | (obtain ⟨_, _, _, _, _, _, rfl, _⟩ := h; rfl)
    | (obtain ⟨_, _, rfl, _⟩ := h; rfl)
theorem cells_one {v : Value} (h : v.oneCell' = true) : v.cells = #[v] := by
  cases v <;> first | rfl | simp [Value.oneCell'] at h
theorem RL.length : ∀ {l : List AS} {m : List Value}, RL ρ l m → l.length = m.length
  | [], [], _ => rfl
  | _ :: _, _ :: _, ⟨_, h2⟩ => by simp [RL.length h2]
  | [], _ :: _, h => h.elim
  | _ :: _, [], h => h.elim
theorem RL.at : ∀ {l : List AS} {m : List Value}, RL ρ l m → ∀ (j : Nat) (a : AS), l[j]? = some a → ∃ v, m[j]? = some v ∧ RS ρ a v
  | [], [], _, j, a, e => by simp at e
  | x :: l, v :: m, ⟨h1, h2⟩, 0, a, e => by simp at e; subst e; exact ⟨v, rfl, h1⟩
  | x :: l, v :: m, ⟨h1, h2⟩, j + 1, a, e => by simpa using RL.at h2 j a (by simpa using e)
  | [], _ :: _, h, _, _, _ => h.elim
  | _ :: _, [], h, _, _, _ => h.elim
theorem RL.at' : ∀ {l : List AS} {m : List Value}, RL ρ l m → ∀ (j : Nat) (v : Value), m[j]? = some v → ∃ a, l[j]? = some a ∧ RS ρ a v
  | [], [], _, j, a, e => by simp at e
  | x :: l, v :: m, ⟨h1, h2⟩, 0, a, e => by simp at e; subst e; exact ⟨x, rfl, h1⟩
  | x :: l, v :: m, ⟨h1, h2⟩, j + 1, a, e => by simpa using RL.at' h2 j a (by simpa using e)
  | [], _ :: _, h, _, _, _ => h.elim
  | _ :: _, [], h, _, _, _ => h.elim
theorem RL.of_at : ∀ (l : List AS) (m : List Value), l.length = m.length → (∀ (j : Nat) (a : AS), l[j]? = some a → ∃ v, m[j]? = some v ∧ RS ρ a v) → RL ρ l m
  | [], [], _, _ => trivial
  | x :: l, v :: m, hl, h => by
    refine ⟨?_, RL.of_at l m (by simpa using hl) fun j a e => ?_⟩
    · obtain ⟨v', e, hr⟩ := h 0 x rfl
      simp at e; subst e; exact hr
    · obtain ⟨v', e', hr⟩ := h (j + 1) a (by simpa using e)
      exact ⟨v', by simpa using e', hr⟩
  | [], _ :: _, hl, _ => by simp at hl
  | _ :: _, [], hl, _ => by simp at hl
theorem RL.append : ∀ {l l' : List AS} {m m' : List Value}, RL ρ l m → RL ρ l' m' → RL ρ (l ++ l') (m ++ m')
  | [], _, [], _, _, h => h
  | _ :: _, _, _ :: _, _, ⟨h1, h2⟩, h => ⟨h1, RL.append h2 h⟩
  | [], _, _ :: _, _, h, _ => h.elim
  | _ :: _, _, [], _, h, _ => h.elim
theorem RVs.append : ∀ {l l' : List AV} {m m' : List Value}, RVs ρ l m → RVs ρ l' m' → RVs ρ (l ++ l') (m ++ m')
  | [], _, [], _, _, h => h
  | _ :: _, _, _ :: _, _, ⟨h1, h2⟩, h => ⟨h1, RVs.append h2 h⟩
  | [], _, _ :: _, _, h, _ => h.elim
  | _ :: _, _, [], _, h, _ => h.elim
theorem RVs.length : ∀ {l : List AV} {m : List Value}, RVs ρ l m → l.length = m.length
  | [], [], _ => rfl
  | _ :: _, _ :: _, ⟨_, h2⟩ => by simp [RVs.length h2]
  | [], _ :: _, h => h.elim
  | _ :: _, [], h => h.elim
theorem RPs.args : ∀ {l : List (Nat × Nat)} {m : List Value}, RPs ρ l m → RVs ρ (ptrArgs l) m
  | [], [], _ => trivial
  | (a, b) :: l, v :: m, ⟨h1, h2⟩ => ⟨h1, RPs.args h2⟩
  | [], _ :: _, h => h.elim
  | _ :: _, [], h => h.elim
theorem RL.allOne : ∀ {l : List AS} {m : List Value}, RL ρ l m → ∀ v ∈ m, v.oneCell' = true
  | [], [], _ => by simp
  | x :: l, v :: m, ⟨h1, h2⟩ => by
    intro u hu
    rcases List.mem_cons.1 hu with rfl | hu
    · exact h1.one
    · exact RL.allOne h2 u hu
  | [], _ :: _, h => h.elim
  | _ :: _, [], h => h.elim
/-- A value's cells. -/
theorem RR.cells {x : AR} {v : Value} (h : RR ρ x v) : RL ρ x.cells v.cells.toList := by
  cases x with
  | v a =>
    rw [cells_one (RS.one h)]
    exact ⟨h, trivial⟩
  | g l =>
    obtain ⟨cs, rfl, hl⟩ := h
    simpa [AR.cells, Value.cells] using hl

/-! Constants -/
theorem cAS_rel {v : Value} {a : AS} (h : cAS v = some a) : RS ρ a v := by
  unfold cAS at h
  split at h <;> first
    | (injection h with h; subst h; rfl)
    | (exact absurd h (by simp))
theorem cASs_rel : ∀ {l : List Value} {r : List AS}, cASs l = some r → RL ρ r l
  | [], r, h => by injection h with h; subst h; trivial
  | v :: l, r, h => by
    unfold cASs at h
    split at h
    · rename_i a r' ha hr
      injection h with h
      subst h
      exact ⟨cAS_rel ha, cASs_rel hr⟩
    · exact absurd h (by simp)
theorem cAV_rel {v : Value} {a : AV} (h : cAV v = some a) : RV ρ a v := by
  unfold cAV at h
  split at h
  · rename_i cs
    obtain ⟨l, hl, rfl⟩ := Option.map_eq_some_iff.1 h
    exact ⟨cs.toList, by simp, cASs_rel hl⟩
  · rename_i vs
    split at h
    · rename_i he
      injection h with h
      subst h
      exact ⟨[], by rw [show vs = #[] from by simpa using he], trivial⟩
    · exact absurd h (by simp)
  · obtain ⟨l, hl, rfl⟩ := Option.map_eq_some_iff.1 h
    exact cAS_rel hl
end

/-! Frames -/
structure RF (ρ : Rho) (nt : Nat) (fr : Fr) (a : Act) : Prop where
  size : a.tmps.size = nt
  at_ : ∀ t, RV ρ (gets fr t) (a.tmps.getD t undef)
  nd : a.defers = []
section
variable {ρ ρ' : Rho} {nt : Nat} {fr : Fr} {a : Act}
theorem RF.mono (h : Ext ρ ρ') (hf : RF ρ nt fr a) : RF ρ' nt fr a := ⟨hf.size, fun t => RV.mono h (hf.at_ t), hf.nd⟩
theorem und_rel : RV ρ und undef := ⟨[], rfl, trivial⟩
theorem RF.ev (hf : RF ρ nt fr a) {x : Operand} {m : MX} (h : cX x = some m) : RV ρ (ev fr m) (a.eval x) := by
  cases x with
  | tmp t => injection h with h; subst h; exact hf.at_ t
  | const v => obtain ⟨c, hc, rfl⟩ := Option.map_eq_some_iff.1 h; exact cAV_rel hc
  | global g => exact absurd h (by simp [cX])
  | func f => injection h with h; subst h; exact ⟨[], [], rfl, trivial, trivial⟩
theorem RF.evs (hf : RF ρ nt fr a) : ∀ {xs : List Operand} {ms : List MX}, cXs xs = some ms → RVs ρ (evs fr ms) (xs.map a.eval)
  | [], ms, h => by injection h with h; subst h; trivial
  | x :: xs, ms, h => by
    unfold cXs at h
    split at h
    · rename_i m r hm hr
      injection h with h
      subst h
      exact ⟨hf.ev hm, hf.evs hr⟩
    · exact absurd h (by simp)
theorem RF.put (hf : RF ρ nt fr a) {d : Option Nat} (hd : dstOk nt d = true) {v : AV} {u : Value} (h : RV ρ v u) : RF ρ nt (putD fr d v) (a.put d u) := by
  cases d with
  | none => exact hf
  | some d =>
    have hd' : d < nt := by simpa [dstOk, Nat.blt_eq] using hd
    refine ⟨by simp [Act.put, hf.size], fun t => ?_, hf.nd⟩
    show RV ρ (gets (sets fr d v) t) ((a.tmps.setIfInBounds d u).getD t undef)
    rw [gets_sets]
    by_cases e : t = d
    · subst e
      simp only [if_true]
      have : (a.tmps.setIfInBounds t u).getD t undef = u := by simp [hf.size, hd']
      rw [this]; exact h
    · rw [if_neg e]
      have : (a.tmps.setIfInBounds d u).getD t undef = a.tmps.getD t undef := by simp [Array.getElem?_setIfInBounds_ne (Ne.symm e)]
      rw [this]; exact hf.at_ t
end

/-! Heaps -/
def Blk.own : Blk → Bool
  | .row o _ => o
  | .map _ => true
def REs (ρ : Rho) : List (List AS × AS) → List MapEntry → Prop
  | [], [] => True
  | (k, v) :: l, e :: m => (∃ ks : List Value, e.key = .agg ks.toArray ∧ RL ρ k ks) ∧ RS ρ v e.val ∧ REs ρ l m
  | _, _ => False
def RBlk (ρ : Rho) (w : World) (cb base tot : Nat) : Blk → Prop
  | .row own cells => ∃ cs ty fr, w.heap[cb]? = some (.cells cs ty fr) ∧ cs.size = tot ∧ base + cells.length ≤ tot ∧
      (∀ j a, cells[j]? = some a → ∃ v, cs[base + j]? = some v ∧ RS ρ a v) ∧ (own = true → fr = (0, 0))
  | .map es => ∃ m clock, w.heap[cb]? = some (.map m clock) ∧ REs ρ es m.toList
structure RB (g : Nat → Option Blk) (ρ : Rho) (w : World) : Prop where
  blk : ∀ id b, g id = some b → ∃ cb base tot, ρ id = some (cb, base, tot) ∧ RBlk ρ w cb base tot b
  excl : ∀ id id' b b' x x', g id = some b → b.own = true → g id' = some b' → ρ id = some x → ρ id' = some x' → id ≠ id' → x.1 ≠ x'.1
section
variable {ρ ρ' : Rho}
theorem REs.mono (h : Ext ρ ρ') : ∀ {l : List (List AS × AS)} {m : List MapEntry}, REs ρ l m → REs ρ' l m
  | [], [], _ => trivial
  | (k, v) :: l, e :: m, ⟨⟨ks, e1, h1⟩, h2, h3⟩ => ⟨⟨ks, e1, RL.mono h h1⟩, RS.mono h h2, REs.mono h h3⟩
  | [], _ :: _, h => h.elim
  | _ :: _, [], h => h.elim
theorem RBlk.mono (h : Ext ρ ρ') {w : World} {cb base tot : Nat} {b : Blk} (hb : RBlk ρ w cb base tot b) : RBlk ρ' w cb base tot b := by
  cases b with
  | row own cells =>
    obtain ⟨cs, ty, fr, h1, h2, h3, h4, h5⟩ := hb
    exact ⟨cs, ty, fr, h1, h2, h3, fun j a e => let ⟨v, hv, hr⟩ := h4 j a e; ⟨v, hv, RS.mono h hr⟩, h5⟩
  | map es => obtain ⟨m, c, h1, h2⟩ := hb; exact ⟨m, c, h1, REs.mono h h2⟩
theorem RBlk.of_heap {w w' : World} {cb base tot : Nat} {b : Blk} (hb : RBlk ρ w cb base tot b) (hh : w'.heap[cb]? = w.heap[cb]?) : RBlk ρ w' cb base tot b := by
  cases b with
  | row own cells => obtain ⟨cs, ty, fr, h1, hr⟩ := hb; exact ⟨cs, ty, fr, hh.trans h1, hr⟩
  | map es => obtain ⟨m, c, h1, h2⟩ := hb; exact ⟨m, c, hh.trans h1, h2⟩
theorem RBlk.lt {w : World} {cb base tot : Nat} {b : Blk} (hb : RBlk ρ w cb base tot b) : cb < w.heap.size := by
  cases b with
  | row own cells => obtain ⟨cs, ty, fr, h1, hr⟩ := hb; exact (Array.getElem?_eq_some_iff.1 h1).1
  | map es => obtain ⟨m, c, h1, h2⟩ := hb; exact (Array.getElem?_eq_some_iff.1 h1).1
theorem RB.sub {g g' : Nat → Option Blk} {w : World} (h : RB g ρ w) (hs : ∀ id b, g' id = some b → g id = some b) : RB g' ρ w :=
  ⟨fun id b e => h.blk id b (hs id b e), fun id id' b b' x x' e o e' => h.excl id id' b b' x x' (hs _ _ e) o (hs _ _ e')⟩
end
/-- What a step from g, rho, w has made of them; new blocks are numbered from lo up to hi. -/
structure Stp (g : Nat → Option Blk) (ρ : Rho) (w : World) (g' : Nat → Option Blk) (ρ' : Rho) (w' : World) (lo hi : Nat) : Prop where
  ext : Ext ρ ρ'
  dom : ∀ id, ¬ (lo ≤ id ∧ id < hi) → ρ' id = ρ id
  rb : RB g' ρ' w'
  size : w.heap.size ≤ w'.heap.size
  os : w'.os = w.os
  tape : w'.tape = w.tape
  output : w'.output = w.output
  keep : ∀ k, k < w.heap.size → (∀ id b x, g id = some b → b.own = true → ρ id = some x → x.1 ≠ k) → w'.heap[k]? = w.heap[k]?
  img : ∀ id b x, g' id = some b → b.own = true → ρ' id = some x → x.1 < w.heap.size → ∃ id0 b0 x0, g id0 = some b0 ∧ b0.own = true ∧ ρ id0 = some x0 ∧ x0.1 = x.1
  ro : ∀ id b, g' id = some b → b.own = false → g id = some b
theorem Stp.refl {g : Nat → Option Blk} {ρ : Rho} {w : World} (h : RB g ρ w) (n : Nat) : Stp g ρ w g ρ w n n :=
  ⟨Ext.refl _, fun _ _ => rfl, h, Nat.le_refl _, rfl, rfl, rfl, fun _ _ _ => rfl, fun id b x e o r _ => ⟨id, b, x, e, o, r, rfl⟩, fun _ _ e _ => e⟩
theorem Stp.trans {g g' g'' : Nat → Option Blk} {ρ ρ' ρ'' : Rho} {w w' w'' : World} {lo mi hi : Nat} (h : Stp g ρ w g' ρ' w' lo mi) (k : Stp g' ρ' w' g'' ρ'' w'' mi hi) (h1 : lo ≤ mi) (h2 : mi ≤ hi) :
    Stp g ρ w g'' ρ'' w'' lo hi := by
  refine ⟨h.ext.trans k.ext, fun id hid => (k.dom id (by omega)).trans (h.dom id (by omega)), k.rb, Nat.le_trans h.size k.size, k.os.trans h.os, k.tape.trans h.tape, k.output.trans h.output, fun j hj ho => ?_, fun id b x e o r hx => ?_, fun id b e o => h.ro _ _ (k.ro _ _ e o) o⟩
  · refine (k.keep j (Nat.lt_of_lt_of_le hj h.size) fun id b x e o r hxj => ?_).trans (h.keep j hj ho)
    obtain ⟨id0, b0, x0, e0, o0, r0, hx0⟩ := h.img id b x e o r (by omega)
    exact ho id0 b0 x0 e0 o0 r0 (by omega)
  · obtain ⟨id1, b1, x1, e1, o1, r1, hx1⟩ := k.img id b x e o r (Nat.lt_of_lt_of_le hx h.size)
    obtain ⟨id0, b0, x0, e0, o0, r0, hx0⟩ := h.img id1 b1 x1 e1 o1 r1 (by omega)
    exact ⟨id0, b0, x0, e0, o0, r0, by omega⟩
/-- A draw moves no block. -/
theorem Stp.drew {g : Nat → Option Blk} {ρ : Rho} {w : World} (h : RB g ρ w) (n : Nat) : Stp g ρ w g ρ w.drew n n :=
  ⟨Ext.refl _, fun _ _ => rfl, ⟨fun id b e => let ⟨cb, base, tot, r, hb⟩ := h.blk id b e; ⟨cb, base, tot, r, hb.of_heap rfl⟩, h.excl⟩, Nat.le_refl _, rfl, rfl, rfl, fun _ _ _ => rfl, fun id b x e o r _ => ⟨id, b, x, e, o, r, rfl⟩, fun _ _ e _ => e⟩
end Go.Proofs.Ytaijmekhfleciaa.Am
