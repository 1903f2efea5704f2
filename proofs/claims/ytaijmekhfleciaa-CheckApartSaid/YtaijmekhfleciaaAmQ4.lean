/- q_ok: every operation that looks at no memory. -/
import Derived.Test.YtaijmekhfleciaaAmQ3
import Derived.Laws.Tables
set_option linter.unusedVariables false
set_option linter.unusedSimpArgs false
namespace Go.Proofs.Ytaijmekhfleciaa.Am
open Go
section
variable {P : Program} {w : World} {ρ : Rho} {nt : Nat} {fr : Fr} {a : Act}
variable {dst : Option Tmp} {type : TypeId} {pos : String} {after : Array Edge} {guard : Option (Nat × Bool)}
theorem eqOp_inv {op : BinOp} {f : Bool → MOp} {m : MOp} (h : eqOp op f = some m) : ∃ g, f g = m ∧ ((op = .eql ∧ g = false) ∨ (op = .neq ∧ g = true)) := by
  unfold eqOp at h
  split at h
  · injection h with h; exact ⟨false, h, .inl ⟨rfl, rfl⟩⟩
  · injection h with h; exact ⟨true, h, .inr ⟨rfl, rfl⟩⟩
  · exact absurd h (by simp)
theorem guard_plain {op : BinOp} {t : TypeId} {x y : Operand} {u v z : Value} (h : ∀ c, u ≠ .agg c) (h' : u ≠ .nilIface) (hr : (binOp op t u v).run P w = .ok z w) :
    (do eqGuard op t x y u v; binOp op t u v : Sem Value).run P w = .ok z w := by
  rw [Sem.run_bind, run_eqGuard_plain h h']
  exact hr
theorem int_shape {x y v : AV} {f : IntKind → Int → Int → Option AS} {u : Value} (hx : RV ρ x u) (h : int2 f x y = some v) : (∀ c, u ≠ .agg c) ∧ u ≠ .nilIface := by
  unfold int2 at h
  split at h
  · rw [rv_int hx]; simp
  · exact absurd h (by simp)
theorem sh_shape {x y v : AV} {f : IntKind → Int → Int → Option AS} {u : Value} (hx : RV ρ x u) (h : sh2 f x y = some v) : (∀ c, u ≠ .agg c) ∧ u ≠ .nilIface := by
  unfold sh2 at h
  split at h
  · rw [rv_int hx]; simp
  · exact absurd h (by simp)
theorem cat_shape {x y v : AV} {u : Value} (hx : RV ρ x u) (h : cat2 x y = some v) : (∀ c, u ≠ .agg c) ∧ u ≠ .nilIface := by
  unfold cat2 at h
  split at h
  · rw [show u = .string _ from hx]; simp
  · exact absurd h (by simp)
theorem intOp_inv {op : BinOp} {a b : MX} {q : QOp} (h : intOp op a b = some (.q q)) :
    (∃ f, q = .int f a b ∧ intOp op = fun x y => some (.q (.int f x y))) ∨ (∃ l, q = .sh l a b ∧ intOp op = fun x y => some (.q (.sh l x y))) := by
  cases op <;> simp only [intOp, Option.some.injEq, MOp.q.injEq, reduceCtorEq] at h <;> subst h <;> first
    | exact .inl ⟨_, rfl, by funext x y; simp [intOp]⟩
    | exact .inr ⟨_, rfl, by funext x y; simp [intOp]⟩
theorem q_bin (hf : RF ρ nt fr a) {op : BinOp} {t yt : TypeId} {x y : Operand} {q : QOp} {v : AV} (h : cBin P op t x y = some (.q q)) (hv : qSem q fr = some v) : VOk P w ρ a ⟨dst, .binOp op t x y yt, type, pos, after, guard⟩ v := by
  suffices hs : ∃ u, (do eqGuard op t x y (a.eval x) (a.eval y); binOp op t (a.eval x) (a.eval y) : Sem Value).run P w = .ok u w ∧ RV ρ v u by
    obtain ⟨u, h1, h2⟩ := hs
    exact vok_of rfl h1 h2
  unfold cBin at h
  split at h
  · rename_i k mx my hu hmx hmy
    rcases intOp_inv h with ⟨f, rfl, hop⟩ | ⟨l, rfl, hop⟩
    · obtain ⟨u, h1, h2⟩ := int2_ok (P := P) (w := w) (t := t) hop (hf.ev hmx) (hf.ev hmy) hv
      obtain ⟨s1, s2⟩ := int_shape (hf.ev hmx) hv
      exact ⟨u, guard_plain s1 s2 h1, h2⟩
    · obtain ⟨u, h1, h2⟩ := sh2_ok (P := P) (w := w) (t := t) hop (hf.ev hmx) (hf.ev hmy) hv
      obtain ⟨s1, s2⟩ := sh_shape (hf.ev hmx) hv
      exact ⟨u, guard_plain s1 s2 h1, h2⟩
  · rename_i mx my hu hmx hmy
    split at h
    · injection h with h
      injection h with h
      subst h
      obtain ⟨u, h1, h2⟩ := cat2_ok (P := P) (w := w) (t := t) (hf.ev hmx) (hf.ev hmy) hv
      obtain ⟨s1, s2⟩ := cat_shape (hf.ev hmx) hv
      exact ⟨u, guard_plain s1 s2 h1, h2⟩
    · obtain ⟨g, e, hop⟩ := eqOp_inv h
      injection e with e
      subst e
      obtain ⟨u, h1, h2, s1, s2⟩ := str2_ok (P := P) (w := w) (t := t) hop (hf.ev hmx) (hf.ev hmy) hv
      exact ⟨u, guard_plain s1 s2 h1, h2⟩
  · rename_i mx my hu hmx hmy
    obtain ⟨g, e, hop⟩ := eqOp_inv h
    injection e with e
    subst e
    obtain ⟨u, h1, h2, s1, s2⟩ := bool2_ok (P := P) (w := w) hop hu (hf.ev hmx) (hf.ev hmy) hv
    exact ⟨u, guard_plain s1 s2 h1, h2⟩
  · rename_i fs mx my hu hmx hmy
    split at h
    · rename_i ks hks
      cases hg : P.eqGuardType P.depth t with
      | true => rw [hg] at h; exact absurd h (by simp)
      | false =>
        rw [hg, cond_false] at h
        obtain ⟨g, e, hop⟩ := eqOp_inv h
        injection e with e
        subst e
        exact agg2_ok (P := P) (w := w) hop hks (by unfold aggP; rw [hu]) hg (hf.ev hmx) (hf.ev hmy) hv
    · exact absurd h (by simp)
  · rename_i n e mx my hu hmx hmy
    split at h
    · rename_i ks hks
      cases hg : P.eqGuardType P.depth t with
      | true => rw [hg] at h; exact absurd h (by simp)
      | false =>
        rw [hg, cond_false] at h
        obtain ⟨g, e, hop⟩ := eqOp_inv h
        injection e with e
        subst e
        exact agg2_ok (P := P) (w := w) hop hks (by unfold aggP; rw [hu]) hg (hf.ev hmx) (hf.ev hmy) hv
    · exact absurd h (by simp)
  · rename_i e mx my hu hmx hmy
    obtain ⟨hy, h2⟩ := cond_some h
    obtain ⟨g, e, hop⟩ := eqOp_inv h2
    injection e with e
    subst e
    obtain ⟨u, h1, h2, s1, s2⟩ := isNil_slice (P := P) (w := w) hop hu (hf.ev hmx) hv
    have hye : a.eval y = .slice none 0 0 := by
      unfold isNilS at hy
      split at hy
      · rfl
      · exact absurd hy (by simp)
    rw [hye]
    exact ⟨u, guard_plain s1 s2 h1, h2⟩
  · rename_i e mx my hu hmx hmy
    obtain ⟨hy, h2⟩ := cond_some h
    obtain ⟨g, e, hop⟩ := eqOp_inv h2
    injection e with e
    subst e
    obtain ⟨u, h1, h2, s1, s2⟩ := isNil_ptr (P := P) (w := w) hop hu (hf.ev hmx) hv
    have hye : a.eval y = .pointer none := by
      unfold isNilP at hy
      split at hy
      · rfl
      · exact absurd hy (by simp)
    rw [hye]
    exact ⟨u, guard_plain s1 s2 h1, h2⟩
  · exact absurd h (by simp)
theorem zeroL_info {t : TypeId} {z : List AS} (h : zeroL P t = some z) : ∃ i v, P.info? t = some i ∧ i.zero = some v ∧ cASs v.cells.toList = some z := by
  unfold zeroL at h
  split at h
  · rename_i i hi
    split at h
    · rename_i v hv
      exact ⟨i, v, hi, hv, h⟩
    · exact absurd h (by simp)
  · exact absurd h (by simp)
theorem q_build (hf : RF ρ nt fr a) {t : TypeId} {ps : Array (Nat × Operand)} {q : QOp} {v : AV} (h : cOp P (.build t ps) = some (.q q)) (hv : qSem q fr = some v) : VOk P w ρ a ⟨dst, .build t ps, type, pos, after, guard⟩ v := by
  suffices hs : ∃ cs : Array Value, P.built t (ps.map fun (i, x) => (i, a.eval x)).toList = some cs ∧ RV ρ v (.agg cs) by
    obtain ⟨cs, h1, h2⟩ := hs
    exact vok_of rfl (run_build w t _ cs h1) h2
  simp only [cOp] at h
  split at h
  · rename_i fs z hu hz
    split at h
    · rename_i pl hpl
      obtain ⟨l, hl, e⟩ := map_some_inj h
      injection e with e
      subst e
      obtain ⟨i, zv, hi, hzv, hzc⟩ := zeroL_info hz
      have hv' : qBuild z l fr = some v := hv
      unfold qBuild at hv'
      split at hv'
      · rename_i cl hcl
        obtain ⟨r, hr, rfl⟩ := map_some_inj hv'
        obtain ⟨e2, e3⟩ := evCells_ok hf hl hcl
        obtain ⟨cs', e4, e5⟩ := fill_ok (ρ := ρ) e2 e3 (cASs_rel hzc) hr
        refine ⟨cs', ?_, cs'.toList, by simp, e5⟩
        unfold Program.built
        simp only [hi, hu, hzv, placesP_eq hpl]
        rw [Array.toList_map]
        simpa using e4
      · exact absurd hv' (by simp)
    · exact absurd h (by simp)
  · rename_i n e z hu hz
    split at h
    · rename_i s hs
      obtain ⟨l, hl, e⟩ := map_some_inj h
      injection e with e
      subst e
      obtain ⟨i, zv, hi, hzv, hzc⟩ := zeroL_info hz
      have hv' : qBuild z l fr = some v := hv
      unfold qBuild at hv'
      split at hv'
      · rename_i cl hcl
        obtain ⟨r, hr, rfl⟩ := map_some_inj hv'
        obtain ⟨e2, e3⟩ := evCells_ok hf hl hcl
        obtain ⟨cs', e4, e5⟩ := fill_ok (ρ := ρ) e2 e3 (cASs_rel hzc) hr
        obtain ⟨ie, hie, rfl⟩ := Option.map_eq_some_iff.1 hs
        refine ⟨cs', ?_, cs'.toList, by simp, e5⟩
        unfold Program.built
        simp only [hi, hu, hzv, hie]
        rw [Array.toList_map]
        exact e4
      · exact absurd hv' (by simp)
    · exact absurd h (by simp)
  · exact absurd h (by simp)
end
end Go.Proofs.Ytaijmekhfleciaa.Am
