/- Loads, and operations that make a block. -/
import Derived.Test.YtaijmekhfleciaaAmQ6
set_option linter.unusedVariables false
set_option linter.unusedSimpArgs false
namespace Go.Proofs.Ytaijmekhfleciaa.Am
open Go
section
variable {P : Program}
/-- Which class an operation compiles to. -/
def notL : MOp → Bool
  | .l _ _ => false
  | _ => true
def notN : MOp → Bool
  | .n _ => false
  | _ => true
def notC : MOp → Bool
  | .c _ => false
  | _ => true
theorem map_ok {α : Type} {f : α → MOp} {x : Option α} {m : MOp} {p : MOp → Bool} (h : x.map f = some m) (hp : ∀ z, p (f z) = true) : p m = true := by
  obtain ⟨z, _, rfl⟩ := map_some_inj h
  exact hp z
theorem some_ok {x m : MOp} {p : MOp → Bool} (h : some x = some m) (hp : p x = true) : p m = true := by
  injection h with h; subst h; exact hp
theorem eqOp_ok {op : BinOp} {f : Bool → MOp} {m : MOp} {p : MOp → Bool} (h : eqOp op f = some m) (hp : ∀ z, p (f z) = true) : p m = true := by
  obtain ⟨z, rfl, _⟩ := eqOp_inv h
  exact hp z
def isQ : MOp → Bool
  | .q _ => true
  | _ => false
theorem intOp_q {op : BinOp} {a b : MX} {m : MOp} (h : intOp op a b = some m) : isQ m = true := by
  cases op <;> simp only [intOp, reduceCtorEq] at h <;> exact some_ok h rfl
theorem cBin_q {op : BinOp} {t : TypeId} {x y : Operand} {m : MOp} (h : cBin P op t x y = some m) : isQ m = true := by
  unfold cBin at h
  split at h
  · exact intOp_q h
  · split at h
    · exact some_ok h rfl
    · exact eqOp_ok h fun _ => rfl
  · exact eqOp_ok h fun _ => rfl
  · split at h
    · cases hg : P.eqGuardType P.depth t with
      | true => rw [hg] at h; exact absurd h (by simp)
      | false => rw [hg, cond_false] at h; exact eqOp_ok h fun _ => rfl
    · exact absurd h (by simp)
  · split at h
    · cases hg : P.eqGuardType P.depth t with
      | true => rw [hg] at h; exact absurd h (by simp)
      | false => rw [hg, cond_false] at h; exact eqOp_ok h fun _ => rfl
    · exact absurd h (by simp)
  · obtain ⟨_, h2⟩ := cond_some h; exact eqOp_ok h2 fun _ => rfl
  · obtain ⟨_, h2⟩ := cond_some h; exact eqOp_ok h2 fun _ => rfl
  · exact absurd h (by simp)
def isQC : MOp → Bool
  | .q _ => true
  | .c _ => true
  | _ => false
theorem cCall_qc {c : Call} {m : MOp} (h : cCall P c = some m) : isQC m = true := by
  unfold cCall at h
  split at h
  · exact absurd h (by simp)
  · split at h
    · exact some_ok h rfl
    · exact some_ok h rfl
    · exact absurd h (by simp)
    · exact absurd h (by simp)
    · split at h
      · split at h
        · exact some_ok h rfl
        · exact some_ok h rfl
        · exact some_ok h rfl
        · exact absurd h (by simp)
      · split at h
        · exact some_ok h rfl
        · exact some_ok h rfl
        · exact absurd h (by simp)
      · exact some_ok h rfl
      · exact some_ok h rfl
      · split at h
        · split at h
          · obtain ⟨_, h2⟩ := cond_some h; exact some_ok h2 rfl
          · exact absurd h (by simp)
        · exact absurd h (by simp)
      · split at h
        · exact map_ok h fun _ => rfl
        · exact absurd h (by simp)
      · split at h
        · exact map_ok h fun _ => rfl
        · exact absurd h (by simp)
      · exact absurd h (by simp)
/-- The class of what each operation compiles to. -/
def clsOp : Op → MOp → Bool
  | .load .., m => match m with | .l _ _ => true | _ => false
  | .alloc _, m | .box .., m | .buildSlice .., m | .makeMap .., m | .makeSlice .., m => match m with | .n _ => true | _ => false
  | .store .., m | .lookup .., m | .mapUpdate .., m => match m with | .c _ => true | _ => false
  | .call _, m => isQC m
  | _, m => isQ m
theorem cOp_cls {op : Op} {m : MOp} (h : cOp P op = some m) : clsOp op m = true := by
  cases op with
  | binOp op t x y yt => exact cBin_q h
  | call c => exact cCall_qc h
  | makeFunc fn x y =>
    cases fn with
    | func f =>
      simp only [cOp] at h
      split at h
      · exact some_ok h rfl
      · exact absurd h (by simp)
    | _ => exact absurd h (by simp [cOp])
  | makeMap t r =>
    cases r with
    | some r => exact absurd h (by simp [cOp])
    | none =>
      simp only [cOp] at h
      split at h
      · exact some_ok h rfl
      · exact absurd h (by simp)
  | lookup t m k ok =>
    cases ok with
    | true => exact absurd h (by simp [cOp])
    | false =>
      simp only [cOp] at h
      split at h
      · split at h
        · obtain ⟨_, h2⟩ := cond_some h; exact map_ok h2 fun _ => rfl
        · exact absurd h (by simp)
      · exact absurd h (by simp)
  | move x => exact map_ok (p := isQ) (by simpa only [cOp] using h) fun _ => rfl
  | assign x => exact map_ok (p := isQ) (by simpa only [cOp] using h) fun _ => rfl
  | alloc e => exact map_ok (p := clsOp (.alloc e)) (by simpa only [cOp] using h) fun _ => rfl
  | nilCheck x => exact map_ok (p := isQ) (by simpa only [cOp] using h) fun _ => rfl
  | extract x n => exact map_ok (p := isQ) (by simpa only [cOp] using h) fun _ => rfl
  | _ =>
    simp only [cOp] at h
    all_goals first
      | (cases h; done)
      | skip
    all_goals repeat' split at h
    all_goals first
      | (cases h; done)
      | (exact some_ok h rfl)
      | (exact map_ok h fun _ => rfl)
      | (obtain ⟨_, h2⟩ := cond_some h; first | (exact some_ok h2 rfl) | (exact map_ok h2 fun _ => rfl))
end
section
variable {P : Program} {w : World} {ρ : Rho} {nt : Nat} {fr : Fr} {a : Act} {g : Nat → Option Blk}
variable {dst : Option Tmp} {type : TypeId} {pos : String} {after : Array Edge} {guard : Option (Nat × Bool)}
theorem cell_at {cb j : Nat} {cs : Array Value} {ty : TypeId} {fz : Nat × Nat} (h : w.heap[cb]? = some (.cells cs ty fz)) : w.cell? ⟨cb, j, none⟩ = cs[j]? := by simp [World.cell?, h]
/-- The cells of a row that is told: what lies there. -/
theorem row_cells {own : Bool} {cells r : List AS} {cb base tot off n : Nat} (hb : RBlk ρ w cb base tot (.row own cells)) (hs : seg cells off n = some r) :
    ∃ vs : List Value, RL ρ r vs ∧ vs.length = n ∧ ∀ (j : Nat) (v : Value), vs[j]? = some v → w.cell? ⟨cb, base + off + j, none⟩ = some v := by
  obtain ⟨cs, ty, fz, h1, h2, h3, h4, h5⟩ := hb
  obtain ⟨s1, s2⟩ := seg_some hs
  have hrl : RL ρ r ((cs.toList.drop (base + off)).take n) := by
    have hlen : n ≤ cells.length - off := by
      rw [seg_eq] at hs
      split at hs
      · assumption
      · exact absurd hs (by simp)
    refine RL.of_at _ _ ?_ fun j b e => ?_
    · rw [s1, List.length_take, List.length_drop, Array.length_toList]
      by_cases h0 : n = 0
      · omega
      · omega
    · have hj : j < n := by
        have := (List.getElem?_eq_some_iff.1 e).1
        omega
      rw [s2 j hj] at e
      obtain ⟨v, hv, hr⟩ := h4 (off + j) b e
      refine ⟨v, ?_, hr⟩
      rw [List.getElem?_take, if_pos hj, List.getElem?_drop, Array.getElem?_toList, ← hv]
      congr 1
      omega
  refine ⟨_, hrl, by rw [← hrl.length, s1], fun j v e => ?_⟩
  rw [cell_at h1]
  rw [List.getElem?_take] at e
  split at e
  · rw [List.getElem?_drop, Array.getElem?_toList] at e
    rw [← e]
  · exact absurd e (by simp)
theorem loadB_ok {cb base tot off : Nat} {n : Option Nat} {t : TypeId} {b : Blk} {v : AV} (hb : RBlk ρ w cb base tot b) (h : loadB n off (some b) = some v) (ht : (∃ k, n = some k ∧ aggP P t = some true ∧ sizeP P t = some k) ∨ (n = none ∧ aggP P t = some false)) :
    ∃ u, (loadVar t ⟨cb, base + off, none⟩).run P w = .ok u w ∧ RV ρ v u := by
  unfold loadVar
  cases b with
  | map es => cases n <;> exact absurd h (by simp [loadB])
  | row own cells =>
    rcases ht with ⟨k, rfl, hg, hs⟩ | ⟨rfl, hg⟩
    · simp only [loadB] at h
      obtain ⟨r, hr, rfl⟩ := map_some_inj h
      obtain ⟨vs, hrl, hl, hc⟩ := row_cells hb hr
      refine ⟨.agg vs.toArray, ?_, vs, rfl, hrl⟩
      have := run_loadCells_list (P := P) w ⟨cb, base + off, none⟩ vs (fun j v e => by rw [add_addr]; exact hc j v e)
      rw [hl] at this
      simp only [Sem.run_bind, aggP_run hg, Result.andThen_ok, if_true, sizeP_run hs, this, Sem.run_pure]
    · simp only [loadB] at h
      obtain ⟨r, hr, rfl⟩ := map_some_inj h
      rw [getAt_eq] at hr
      obtain ⟨cs, ty, fz, h1, h2, h3, h4, h5⟩ := hb
      obtain ⟨u, hu, hru⟩ := h4 off r hr
      refine ⟨u, ?_, hru⟩
      have hc : w.cell? ⟨cb, base + off, none⟩ = some u := by rw [cell_at h1]; exact hu
      simp only [Sem.run_bind, aggP_run hg, Result.andThen_ok, Bool.false_eq_true, if_false]
      rw [run_load, hc]
theorem loadG_ok {x : AV} {n : Option Nat} {t : TypeId} {v : AV} {u : Value} (hb : RB g ρ w) (hx : RV ρ x u) (h : loadG g n x = some v) (ht : (∃ k, n = some k ∧ aggP P t = some true ∧ sizeP P t = some k) ∨ (n = none ∧ aggP P t = some false)) :
    ∃ ad, u = .pointer (some ad) ∧ ∃ z, (loadVar t ad).run P w = .ok z w ∧ RV ρ v z := by
  unfold loadG at h
  split at h
  · rename_i id off
    obtain ⟨cb, base, tot, e, rfl⟩ := hx
    refine ⟨_, rfl, ?_⟩
    cases hg : g id with
    | none => rw [hg] at h; cases n <;> exact absurd h (by simp [loadB])
    | some b =>
      rw [hg] at h
      obtain ⟨cb', base', tot', e', hb'⟩ := hb.blk id b hg
      rw [e] at e'
      injection e' with e'
      injection e' with e1 e2
      injection e2 with e2 e3
      subst e1 e2 e3
      exact loadB_ok hb' h ht
  · exact absurd h (by simp)
theorem l_ok (hf : RF ρ nt fr a) (hb : RB g ρ w) {op : Op} {n : Option Nat} {x : MX} {v : AV} (h : cOp P op = some (.l n x)) (hv : loadG g n (ev fr x) = some v) : VOk P w ρ a ⟨dst, op, type, pos, after, guard⟩ v := by
  have key : ∀ {t : TypeId} {y : Operand}, cX y = some x → ((∃ k, n = some k ∧ aggP P t = some true ∧ sizeP P t = some k) ∨ (n = none ∧ aggP P t = some false)) → VOk P w ρ a ⟨dst, .load t y, type, pos, after, guard⟩ v := by
    intro t y hy ht
    obtain ⟨ad, e, z, h1, h2⟩ := loadG_ok (P := P) hb (hf.ev hy) hv ht
    refine ⟨z, ?_, h2⟩
    simp only [execOp]
    refine run_value ?_
    rw [e]
    simp only [Instr.loadAt, Instr.sureAddr, Sem.run_bind, Sem.run_pure, Result.andThen_ok, h1]
  cases op with
  | load t y =>
    simp only [cOp] at h
    split at h
    · rename_i s m hg hs hy
      injection h with h; injection h with h1 h2; subst h1 h2
      exact key hy (.inl ⟨s, rfl, hg, hs⟩)
    · rename_i s m hg hs hy
      injection h with h; injection h with h1 h2; subst h1 h2
      exact key hy (.inr ⟨rfl, hg⟩)
    · exact absurd h (by simp)
  | _ =>
    have hc := cOp_cls h
    simp [clsOp, isQ, isQC] at hc
end
end Go.Proofs.Ytaijmekhfleciaa.Am
