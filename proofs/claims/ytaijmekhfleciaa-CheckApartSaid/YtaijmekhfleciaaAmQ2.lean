/- The rest of the operations that look at no memory, and all of them together. -/
import Derived.Test.YtaijmekhfleciaaAmQOps
set_option linter.unusedVariables false
set_option linter.unusedSimpArgs false
namespace Go.Proofs.Ytaijmekhfleciaa.Am
open Go
section
variable {P : Program} {w : World} {ρ : Rho} {nt : Nat} {fr : Fr} {a : Act}

theorem rv_agg {l : List AS} {v : Value} (h : RV ρ (.r (.g l)) v) : ∃ cs : List Value, v = .agg cs.toArray ∧ RL ρ l cs := h
theorem partOf_ok {t : TypeId} {g : Bool} {n off : Nat} {l : List AS} {cs : List Value} {v : AV} (hg : aggP P t = some g) (hn : sizeP P t = some n) (hl : RL ρ l cs) (h : partOf g l off n = some v) :
    ∃ u, (part t cs.toArray off).run P w = .ok u w ∧ RV ρ v u := by
  unfold partOf at h
  unfold part
  simp only [Sem.run_bind, aggP_run hg, Result.andThen_ok]
  cases g with
  | true =>
    simp only [cond_true] at h
    obtain ⟨r, hr, rfl⟩ := Option.map_eq_some_iff.1 h
    simp only [if_true, Sem.run_bind, sizeP_run hn, Result.andThen_ok, Sem.run_pure]
    refine ⟨_, rfl, (cs.drop off).take n, by simp [List.extract_eq_take_drop], ?_⟩
    obtain ⟨h1, h2⟩ := seg_some hr
    have e : r = (l.drop off).take n := by
      rw [seg_eq] at hr
      split at hr
      · injection hr with hr; exact hr.symm
      · exact absurd hr (by simp)
    rw [e]
    exact (hl.drop off).take n
  | false =>
    simp only [cond_false] at h
    obtain ⟨r, hr, rfl⟩ := Option.map_eq_some_iff.1 h
    rw [getAt_eq] at hr
    obtain ⟨u, hu, hs⟩ := hl.at off r hr
    simp only [Bool.false_eq_true, if_false]
    have : cs.toArray[off]? = some u := by simpa using hu
    rw [this]
    exact ⟨u, rfl, hs⟩
/-- Parts written one behind the other. -/
theorem evCells_ok (hf : RF ρ nt fr a) {place : Nat → Option (Nat × Nat)} : ∀ {ps : List (Nat × Operand)} {ms : List (Nat × Nat × MX)} {l : List (Nat × Nat × List AS)}, cParts place ps = some ms → evCells fr ms = some l →
    (ps.map fun (i, x) => (i, a.eval x)).length = l.length ∧ ∀ (j i : Nat) (v : Value), (ps.map fun (i, x) => (i, a.eval x))[j]? = some (i, v) → ∃ (o s : Nat) (p : List AS), place i = some (o, s) ∧ l[j]? = some (o, s, p) ∧ RL ρ p v.cells.toList
  | [], ms, l, h, h2 => by
    injection h with h
    subst h
    simp only [evCells, Option.some.injEq] at h2
    subst h2
    exact ⟨rfl, fun j i v e => by simp at e⟩
  | (i, x) :: ps, ms, l, h, h2 => by
    simp only [cParts] at h
    split at h
    · rename_i p m r hp hm hr
      injection h with h
      subst h
      simp only [evCells] at h2
      split at h2
      · rename_i c r' hc hr'
        injection h2 with h2
        subst h2
        obtain ⟨e2, e3⟩ := evCells_ok hf hr hr'
        refine ⟨by simpa using e2, fun j i' v e => ?_⟩
        cases j with
        | zero =>
          simp only [List.map_cons, List.getElem?_cons_zero, Option.some.injEq, Prod.mk.injEq] at e
          obtain ⟨rfl, rfl⟩ := e
          refine ⟨p.1, p.2, c, hp, rfl, ?_⟩
          have hx := hf.ev hm
          generalize ev fr m = y at hc hx
          cases y with
          | r y => simp only [cellsOf, Option.some.injEq] at hc; subst hc; exact RR.cells hx
          | t y => exact absurd hc (by simp [cellsOf])
        | succ j => simpa using e3 j i' v (by simpa using e)
      · exact absurd h2 (by simp)
    · exact absurd h (by simp)
theorem placesP_eq : ∀ {fs : List Field} {pl : List (Nat × Nat)}, placesP P fs = some pl → fs.mapM (fun f => (P.info? f.type).map fun i => (f.offset, i.size)) = some pl
  | [], pl, h => by simpa [placesP] using h
  | f :: fs, pl, h => by
    simp only [placesP] at h
    split at h
    · rename_i s r hs hr
      injection h with h
      subst h
      obtain ⟨i, hi, rfl⟩ := Option.map_eq_some_iff.1 hs
      rw [List.mapM_cons]
      simp [hi, placesP_eq hr]
    · exact absurd h (by simp)
theorem foldl_set (off : Nat) : ∀ (vs : List Value) (i : Nat) (cs : Array Value), off + i + vs.length ≤ cs.size →
    ((vs.zipIdx i).foldl (fun cs (p : Value × Nat) => cs.setIfInBounds (off + p.2) p.1) cs).size = cs.size ∧
    ∀ j, ((vs.zipIdx i).foldl (fun cs (p : Value × Nat) => cs.setIfInBounds (off + p.2) p.1) cs)[j]? = if off + i ≤ j ∧ j < off + i + vs.length then vs[j - (off + i)]? else cs[j]?
  | [], i, cs, h => ⟨rfl, fun j => by rw [if_neg (by simp)]; rfl⟩
  | v :: vs, i, cs, h => by
    simp only [List.zipIdx_cons, List.foldl_cons]
    simp only [List.length_cons] at h ⊢
    obtain ⟨h1, h2⟩ := foldl_set off vs (i + 1) (cs.setIfInBounds (off + i) v) (by simp; omega)
    refine ⟨by rw [h1]; simp, fun j => ?_⟩
    rw [h2 j]
    by_cases hj : off + (i + 1) ≤ j ∧ j < off + (i + 1) + vs.length
    · rw [if_pos hj, if_pos (by omega), show j - (off + i) = j - (off + (i + 1)) + 1 by omega]
      simp
    · rw [if_neg hj]
      by_cases e : j = off + i
      · subst e
        rw [if_pos (by omega), Array.getElem?_setIfInBounds_self_of_lt (by omega)]
        simp
      · rw [if_neg (by omega), Array.getElem?_setIfInBounds_ne (Ne.symm e)]
theorem fill_ok {place : Nat → Option (Nat × Nat)} : ∀ {vs : List (Nat × Value)} {l : List (Nat × Nat × List AS)} {z r : List AS} {cs : Array Value}, vs.length = l.length → (∀ (j i : Nat) (v : Value), vs[j]? = some (i, v) → ∃ (o s : Nat) (p : List AS), place i = some (o, s) ∧ l[j]? = some (o, s, p) ∧ RL ρ p v.cells.toList) →
    RL ρ z cs.toList → fillA z l = some r → ∃ cs' : Array Value, Instr.fill place cs vs = some cs' ∧ RL ρ r cs'.toList
  | [], l, z, r, cs, hl, hv, hz, h => by
    obtain rfl : l = [] := List.eq_nil_of_length_eq_zero hl.symm
    simp only [fillA, Option.some.injEq] at h
    subst h
    exact ⟨cs, rfl, hz⟩
  | (i, v) :: vs, l, z, r, cs, hl, hv, hz, h => by
    cases l with
    | nil => simp at hl
    | cons x l =>
      obtain ⟨o, s, p, hp, hx, hr⟩ := hv 0 i v rfl
      simp only [List.getElem?_cons_zero, Option.some.injEq] at hx
      subst hx
      simp only [fillA] at h
      obtain ⟨hc, h2⟩ := cond_some h
      rw [natBeq, decide_eq_true_eq] at hc
      split at h2
      case h_2 => exact absurd h2 (by simp)
      rename_i z' hz'
      obtain ⟨s1, s2, s3⟩ := splice_some hz'
      have hzl := hz.length
      have hpl := hr.length
      simp only [Array.length_toList] at hzl hpl
      obtain ⟨f1, f2⟩ := foldl_set o v.cells.toList 0 cs (by simp; omega)
      have hz2 : RL ρ z' ((v.cells.toList.zipIdx 0).foldl (fun cs (p : Value × Nat) => cs.setIfInBounds (o + p.2) p.1) cs).toList := by
        refine RL.of_at _ _ (by rw [s2]; simp only [Array.length_toList]; rw [f1]; omega) fun j b e => ?_
        rw [Array.getElem?_toList, f2 j]
        rw [s3 j] at e
        by_cases hj : o ≤ j ∧ j < o + p.length
        · rw [if_pos hj] at e
          rw [if_pos (by simp only [Array.length_toList]; omega)]
          exact hr.at _ b e
        · rw [if_neg hj] at e
          rw [if_neg (by simp only [Array.length_toList]; omega)]
          simpa using hz.at j b e
      obtain ⟨cs', e1, e2⟩ := fill_ok (vs := vs) (l := l) (by simpa using hl) (fun j i' v' e => by simpa using hv (j + 1) i' v' (by simpa using e)) hz2 h2
      refine ⟨cs', ?_, e2⟩
      simp only [Instr.fill, hp]
      rw [if_neg (by simp only [Bool.or_eq_true, decide_eq_true_eq, not_or]; constructor <;> omega)]
      rw [← e1]
      congr 1
      rw [← Array.foldl_toList, Array.toList_zipIdx]
theorem evsA_ok (hf : RF ρ nt fr a) {xs : Array Operand} {ms : List MX} (h : cXs xs.toList = some ms) : RVs ρ (evs fr ms) (xs.map a.eval).toList := by
  rw [Array.toList_map]; exact hf.evs h
theorem maxGo_ok {k : IntKind} : ∀ {l : List AV} {vs : List Value} {n : Int} {v : AV}, RVs ρ l vs → maxGo k n l = some v → ∃ u, (vs.foldlM Builtin.max2 (.int k n)).run P w = .ok u w ∧ RV ρ v u
  | [], [], n, v, _, h => by simp only [maxGo, Option.some.injEq] at h; subst h; exact ⟨_, rfl, rfl⟩
  | .r (.v (.i k' b)) :: l, u :: vs, n, v, ⟨h1, h2⟩, h => by
    simp only [maxGo] at h
    obtain rfl : u = .int k' b := h1
    obtain ⟨u', e1, e2⟩ := maxGo_ok h2 h
    exact ⟨u', by simpa [Builtin.max2] using e1, e2⟩
  | .t _ :: _, _ :: _, _, _, _, h => by simp [maxGo] at h
  | .r (.g _) :: _, _ :: _, _, _, _, h => by simp [maxGo] at h
  | .r (.v (.b _)) :: _, _ :: _, _, _, _, h | .r (.v (.s _)) :: _, _ :: _, _, _, _, h | .r (.v (.p _ _)) :: _, _ :: _, _, _, _, h | .r (.v .np) :: _, _ :: _, _, _, _, h | .r (.v (.sl _ _ _ _ _)) :: _, _ :: _, _, _, _, h | .r (.v .nsl) :: _, _ :: _, _, _, _, h
  | .r (.v (.f _ _ _)) :: _, _ :: _, _, _, _, h | .r (.v .nf) :: _, _ :: _, _, _, _, h | .r (.v .ni) :: _, _ :: _, _, _, _, h | .r (.v (.m _)) :: _, _ :: _, _, _, _, h | .r (.v .nm) :: _, _ :: _, _, _, _, h => by simp [maxGo] at h
  | [], _ :: _, _, _, h, _ => h.elim
  | _ :: _, [], _, _, h, _ => h.elim
theorem minGo_ok {k : IntKind} : ∀ {l : List AV} {vs : List Value} {n : Int} {v : AV}, RVs ρ l vs → minGo k n l = some v → ∃ u, (vs.foldlM Builtin.min2 (.int k n)).run P w = .ok u w ∧ RV ρ v u
  | [], [], n, v, _, h => by simp only [minGo, Option.some.injEq] at h; subst h; exact ⟨_, rfl, rfl⟩
  | .r (.v (.i k' b)) :: l, u :: vs, n, v, ⟨h1, h2⟩, h => by
    simp only [minGo] at h
    obtain rfl : u = .int k' b := h1
    obtain ⟨u', e1, e2⟩ := minGo_ok h2 h
    exact ⟨u', by simpa [Builtin.min2] using e1, e2⟩
  | .t _ :: _, _ :: _, _, _, _, h => by simp [minGo] at h
  | .r (.g _) :: _, _ :: _, _, _, _, h => by simp [minGo] at h
  | .r (.v (.b _)) :: _, _ :: _, _, _, _, h | .r (.v (.s _)) :: _, _ :: _, _, _, _, h | .r (.v (.p _ _)) :: _, _ :: _, _, _, _, h | .r (.v .np) :: _, _ :: _, _, _, _, h | .r (.v (.sl _ _ _ _ _)) :: _, _ :: _, _, _, _, h | .r (.v .nsl) :: _, _ :: _, _, _, _, h
  | .r (.v (.f _ _ _)) :: _, _ :: _, _, _, _, h | .r (.v .nf) :: _, _ :: _, _, _, _, h | .r (.v .ni) :: _, _ :: _, _, _, _, h | .r (.v (.m _)) :: _, _ :: _, _, _, _, h | .r (.v .nm) :: _, _ :: _, _, _, _, h => by simp [minGo] at h
  | [], _ :: _, _, _, h, _ => h.elim
  | _ :: _, [], _, _, h, _ => h.elim
theorem maxI_ok {l : List AV} {vs : List Value} {v : AV} (hl : RVs ρ l vs) (h : maxI l = some v) : ∃ u x r, vs = x :: r ∧ (r.foldlM Builtin.max2 x).run P w = .ok u w ∧ RV ρ v u := by
  unfold maxI at h
  split at h
  · rename_i k n l
    cases vs with
    | nil => exact hl.elim
    | cons x r =>
      obtain ⟨h1, h2⟩ := hl
      obtain rfl : x = .int k n := h1
      obtain ⟨u, e1, e2⟩ := maxGo_ok (P := P) (w := w) h2 h
      exact ⟨u, _, r, rfl, e1, e2⟩
  · exact absurd h (by simp)
theorem minI_ok {l : List AV} {vs : List Value} {v : AV} (hl : RVs ρ l vs) (h : minI l = some v) : ∃ u x r, vs = x :: r ∧ (r.foldlM Builtin.min2 x).run P w = .ok u w ∧ RV ρ v u := by
  unfold minI at h
  split at h
  · rename_i k n l
    cases vs with
    | nil => exact hl.elim
    | cons x r =>
      obtain ⟨h1, h2⟩ := hl
      obtain rfl : x = .int k n := h1
      obtain ⟨u, e1, e2⟩ := minGo_ok (P := P) (w := w) h2 h
      exact ⟨u, _, r, rfl, e1, e2⟩
  · exact absurd h (by simp)
end
end Go.Proofs.Ytaijmekhfleciaa.Am
