/- All operations that look at no memory: q_ok. -/
import Derived.Test.YtaijmekhfleciaaAmQ2
set_option linter.unusedVariables false
set_option linter.unusedSimpArgs false
namespace Go.Proofs.Ytaijmekhfleciaa.Am
open Go
section
variable {P : Program} {w : World} {ρ : Rho} {nt : Nat} {fr : Fr} {a : Act}
/-- The operation answers a value, as told, and leaves the world alone. -/
def VOk (P : Program) (w : World) (ρ : Rho) (a : Act) (o : Oper) (v : AV) : Prop := ∃ u, (execOp a.eval o).run P w = .ok (.value u) w ∧ RV ρ v u
theorem map_some_inj {α β : Type} {f : α → β} {x : Option α} {y : β} (h : x.map f = some y) : ∃ z, x = some z ∧ f z = y := Option.map_eq_some_iff.1 h
variable {dst : Option Tmp} {type : TypeId} {pos : String} {after : Array Edge} {guard : Option (Nat × Bool)}
theorem vok_of {op : Op} {s : Sem Value} {u : Value} {v : AV} (hs : (execOp a.eval ⟨dst, op, type, pos, after, guard⟩) = (do pure (Next.value (← s)) : Sem Next)) (h : s.run P w = .ok u w) (hr : RV ρ v u) : VOk P w ρ a ⟨dst, op, type, pos, after, guard⟩ v :=
  ⟨u, by rw [hs]; exact run_value h, hr⟩
theorem q_mv (hf : RF ρ nt fr a) {x : Operand} {q : QOp} {v : AV} (h : (cX x).map (fun a => MOp.q (.mv a)) = some (.q q)) (hv : qSem q fr = some v) : RV ρ v (a.eval x) := by
  obtain ⟨m, hm, e⟩ := map_some_inj h
  injection e with e
  subst e
  have : v = ev fr m := by injection hv with hv; exact hv.symm
  subst this
  exact hf.ev hm
theorem fad_rel {off : Nat} {x v : AV} {u : Value} (hx : RV ρ x u) (h : fad1 off x = some v) : ∃ ad : Addr, u = .pointer (some ad) ∧ ad.spot = none ∧ RV ρ v (.pointer (some ⟨ad.block, ad.off + off, none⟩)) := by
  unfold fad1 at h
  split at h
  · rename_i id o
    injection h with h
    subst h
    obtain ⟨cb, base, tot, e, rfl⟩ := hx
    exact ⟨_, rfl, rfl, cb, base, tot, e, by simp [Nat.add_assoc]⟩
  · exact absurd h (by simp)
theorem add_addr (b o n : Nat) : (⟨b, o, none⟩ : Addr).add n = ⟨b, o + n, none⟩ := by
  unfold Addr.add
  split
  · rename_i h; subst h; rfl
  · rfl
theorem RPs_ok (hf : RF ρ nt fr a) : ∀ {xs : List Operand} {ms : List MX} {l : List (Nat × Nat)}, cXs xs = some ms → ptrs fr ms = some l → RPs ρ l (xs.map a.eval)
  | [], ms, l, h, h2 => by
    injection h with h
    subst h
    simp only [ptrs, Option.some.injEq] at h2
    subst h2
    trivial
  | x :: xs, ms, l, h, h2 => by
    unfold cXs at h
    split at h
    · rename_i m r hm hr
      injection h with h
      subst h
      simp only [ptrs] at h2
      split at h2
      · rename_i id off r' he hr'
        injection h2 with h2
        subst h2
        have := hf.ev hm
        rw [he] at this
        exact ⟨this, RPs_ok hf hr hr'⟩
      · exact absurd h2 (by simp)
    · exact absurd h (by simp)
theorem bnd_rel (hf : RF ρ nt fr a) {x : Operand} {m : MX} {y n : Nat} (hm : cX x = some m) (h : bnd fr m y = some n) : ∃ k, a.eval x = .int k n ∧ n ≤ y := by
  unfold bnd at h
  split at h
  · rename_i j hj
    obtain ⟨hc, h2⟩ := cond_some h
    injection h2 with h2
    subst h2
    obtain ⟨k, hk⟩ := asN_rel (hf.ev hm) hj
    exact ⟨k, hk, by rwa [Nat.ble_eq] at hc⟩
  · exact absurd h (by simp)
theorem run_sliceBound {k : IntKind} {n y : Nat} {code : BoundsCode} (h : n ≤ y) : (Instr.sliceBound (.int k n) y code).run P w = .ok n w := by
  unfold Instr.sliceBound
  simp only [asIntOf, Sem.run_bind, Sem.run_pure, Result.andThen_ok]
  rw [if_pos ⟨by omega, by exact_mod_cast h⟩]
  simp
/-- A slice's bounds, of an operand's own kind. -/
theorem slcE_rel (hf : RF ρ nt fr a) {size id off len ccap : Nat} {cap : Option Nat} {lo hi mx : Option Operand} {lo' hi' mx' : Option MX} {v : AV} {isS : Bool}
    (h1 : cXo lo = some lo') (h2 : cXo hi = some hi') (h3 : cXo mx = some mx') (hcap : len ≤ ccap) (hk : ∀ k, cap = some k → ccap = k) (h : slcE fr size id off len cap lo' hi' mx' = some v) :
    ∃ l h' m cap', (Instr.sliceBounds isS len ccap (lo.map a.eval) (hi.map a.eval) (mx.map a.eval)).run P w = .ok (l, h', m) w ∧ v = .r (.v (.sl id (off + l * size) (h' - l) cap' size)) ∧ l ≤ h' ∧ h' ≤ m ∧ m ≤ ccap ∧ (∀ k, cap' = some k → m - l = k) ∧ (cap' = none → cap = none) := by
  have htop : topOf len cap ≤ ccap := by
    cases cap with
    | none => exact hcap
    | some k => exact Nat.le_of_eq (hk k rfl).symm
  have bndO_rel : ∀ {x : Option Operand} {x' : Option MX} {y d n : Nat}, cXo x = some x' → bndO fr x' y d = some n → (x = none ∧ n = d) ∨ (∃ z k, x = some z ∧ a.eval z = .int k n ∧ n ≤ y) := by
    intro x x' y d n hx hn
    cases x with
    | none => injection hx with hx; subst hx; injection hn with hn; exact .inl ⟨rfl, hn.symm⟩
    | some z =>
      obtain ⟨m, hm, rfl⟩ := map_some_inj hx
      obtain ⟨k, hk, hle⟩ := bnd_rel hf hm hn
      exact .inr ⟨z, k, rfl, hk, hle⟩
  unfold slcE at h
  split at h
  · -- a full slice
    rename_i m0
    cases mx with
    | none => exact absurd h3 (by simp [cXo])
    | some mo =>
      obtain ⟨m0', hm0, e⟩ := map_some_inj h3
      injection e with e
      subst e
      split at h
      · rename_i m h0 hm
        cases hi with
        | none => exact absurd h2 (by simp [cXo])
        | some ho =>
          obtain ⟨h0', hh0, e⟩ := map_some_inj h2
          injection e with e
          subst e
          split at h
          · rename_i hh hhb
            split at h
            · rename_i l hl
              injection h with h
              subst h
              obtain ⟨k1, e1, l1⟩ := bnd_rel hf hm0 hm
              obtain ⟨k2, e2, l2⟩ := bnd_rel hf hh0 hhb
              refine ⟨l, hh, m, some (m - l), ?_, rfl, ?_, l2, Nat.le_trans l1 htop, fun k e => by injection e, fun e => by simp at e⟩
              · unfold Instr.sliceBounds
                simp only [Option.map_some, e1, e2]
                rcases bndO_rel h1 hl with ⟨rfl, rfl⟩ | ⟨z, k3, rfl, e3, l3⟩
                · simp [run_sliceBound (Nat.le_trans l1 htop), run_sliceBound l2]
                · simp [run_sliceBound (Nat.le_trans l1 htop), run_sliceBound l2, e3, run_sliceBound l3]
              · rcases bndO_rel h1 hl with ⟨_, rfl⟩ | ⟨z, k3, _, e3, l3⟩
                · exact Nat.zero_le _
                · exact l3
            · exact absurd h (by simp)
          · exact absurd h (by simp)
      · exact absurd h (by simp)
  · cases mx with
    | some mo => obtain ⟨_, _, e⟩ := map_some_inj h3; exact absurd e (by simp)
    | none =>
      split at h
      · rename_i hh hhb
        split at h
        · rename_i l hl
          injection h with h
          subst h
          have hhc : hh ≤ ccap := by
            rcases bndO_rel h2 hhb with ⟨_, rfl⟩ | ⟨z, k3, _, e3, l3⟩
            · exact hcap
            · exact Nat.le_trans l3 htop
          refine ⟨l, hh, ccap, cap.map (· - l), ?_, rfl, ?_, hhc, Nat.le_refl _, fun k e => ?_, fun e => by simpa using e⟩
          · unfold Instr.sliceBounds
            simp only [Option.map_none]
            rcases bndO_rel h2 hhb with ⟨rfl, rfl⟩ | ⟨z2, k2, rfl, e2, l2⟩
            · rcases bndO_rel h1 hl with ⟨rfl, rfl⟩ | ⟨z, k3, rfl, e3, l3⟩
              · simp
              · simp [e3, run_sliceBound l3]
            · rcases bndO_rel h1 hl with ⟨rfl, rfl⟩ | ⟨z, k3, rfl, e3, l3⟩
              · simp [e2, run_sliceBound (Nat.le_trans l2 htop)]
              · simp [e2, run_sliceBound (Nat.le_trans l2 htop), e3, run_sliceBound l3]
          · rcases bndO_rel h1 hl with ⟨_, rfl⟩ | ⟨z, k3, _, e3, l3⟩
            · exact Nat.zero_le _
            · exact l3
          · obtain ⟨c, rfl, rfl⟩ := map_some_inj e
            rw [hk c rfl]
        · exact absurd h (by simp)
      · exact absurd h (by simp)
theorem slice_val {id off c size cb base tot o l h' m : Nat} {cap cap' : Option Nat} (hr : ρ id = some (cb, base, tot)) (ho : 0 < c → o = base + off) (ht : cap = none → 0 < c → o + c * size ≤ tot) (hcc : cap' = none → cap = none) (h1 : l ≤ h') (h2 : h' ≤ m) (h3 : m ≤ c) (hc : ∀ k, cap' = some k → m - l = k) :
    RV ρ (.r (.v (.sl id (off + l * size) (h' - l) cap' size))) (.slice (some (if m = l then (⟨cb, o, none⟩ : Addr) else (⟨cb, o, none⟩ : Addr).add (l * size))) (h' - l) (m - l)) := by
  by_cases e : m = l
  · rw [if_pos e]
    exact ⟨cb, base, tot, o, m - l, hr, rfl, by omega, fun h => by omega, hc, fun _ h => by omega⟩
  · rw [if_neg e, add_addr]
    have hc0 : 0 < c := by omega
    refine ⟨cb, base, tot, o + l * size, m - l, hr, rfl, by omega, fun _ => by have := ho hc0; omega, hc, fun hn _ => ?_⟩
    have := ht (hcc hn) hc0
    have hle : l * size + (m - l) * size ≤ c * size := by rw [← Nat.add_mul]; exact Nat.mul_le_mul_right _ (by omega)
    omega
end
end Go.Proofs.Ytaijmekhfleciaa.Am
