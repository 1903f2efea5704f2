/- Every operation that looks at no memory: what the small machine tells is what the model does. -/
import Derived.Test.YtaijmekhfleciaaAmEq
import Derived.Laws.Strings
import Derived.Laws.Cover3
import Derived.Laws.Pointers
import Derived.Laws.Small
set_option linter.unusedVariables false
set_option linter.unusedSimpArgs false
namespace Go.Proofs.Ytaijmekhfleciaa.Am
open Go
section
variable {P : Program} {w : World} {ρ : Rho} {nt : Nat} {fr : Fr} {a : Act}

/-! What a value is, by what is told of it -/
theorem rv_int {k : IntKind} {n : Int} {v : Value} (h : RV ρ (.r (.v (.i k n))) v) : v = .int k n := h
theorem rv_bool {b : Bool} {v : Value} (h : RV ρ (.r (.v (.b b))) v) : v = .bool b := h
theorem asN_rel {x : AV} {v : Value} {j : Nat} (hx : RV ρ x v) (h : asN x = some j) : ∃ k, v = .int k j := by
  unfold asN at h
  split at h
  · rename_i k n hk
    unfold asI at hk
    split at hk
    · rename_i k' n'
      injection hk with hk
      injection hk with h1 h2
      subst h1 h2
      have e : n' = (j : Int) := by
        cases n' with
        | ofNat m => simp only [natOf, Option.some.injEq] at h; subst h; rfl
        | negSucc m => simp [natOf] at h
      subst e
      exact ⟨_, hx⟩
    · exact absurd hk (by simp)
  · exact absurd h (by simp)
theorem run_value {s : Sem Value} {u : Value} {w' : World} (h : s.run P w = .ok u w') : (do pure (Next.value (← s)) : Sem Next).run P w = .ok (.value u) w' := by simp [h]

theorem int2_ok {op : BinOp} {f : IFun} (hf : intOp op = fun x y => some (.q (.int f x y))) {t : TypeId} {x y v : AV} {u u' : Value} (hx : RV ρ x u) (hy : RV ρ y u') (h : int2 (iSem f) x y = some v) :
    ∃ z, (binOp op t u u').run P w = .ok z w ∧ RV ρ v z := by
  unfold int2 at h
  split at h
  · rename_i k a k' b
    obtain ⟨hk, h2⟩ := cond_some h
    obtain rfl := kindEq_eq hk
    obtain ⟨z, hz, rfl⟩ := Option.map_eq_some_iff.1 h2
    rw [rv_int hx, rv_int hy]
    exact intOp_run hf hz
  · exact absurd h (by simp)
theorem natOf_eq {n : Int} {j : Nat} (h : natOf n = some j) : n = j := by
  cases n with
  | ofNat m => simp only [natOf, Option.some.injEq] at h; subst h; rfl
  | negSucc m => simp [natOf] at h
theorem sh2_ok {op : BinOp} {l : Bool} (hf : intOp op = fun x y => some (.q (.sh l x y))) {t : TypeId} {x y v : AV} {u u' : Value} (hx : RV ρ x u) (hy : RV ρ y u') (h : sh2 (shSem l) x y = some v) :
    ∃ z, (binOp op t u u').run P w = .ok z w ∧ RV ρ v z := by
  unfold sh2 at h
  split at h
  · rename_i k a k' b
    obtain ⟨z, hz, rfl⟩ := Option.map_eq_some_iff.1 h
    rw [rv_int hx, rv_int hy]
    have e := congrFun (congrFun hf (.t 0)) (.t 0)
    have hop : (l = false ∧ op = .shr) ∨ (l = true ∧ op = .shl) := by
      cases l <;> cases op <;> simp only [intOp, Option.some.injEq, MOp.q.injEq, QOp.sh.injEq, reduceCtorEq, and_true, false_and, Bool.false_eq_true, Bool.true_eq_false] at e <;> simp
    rcases hop with ⟨rfl, rfl⟩ | ⟨rfl, rfl⟩
    · simp only [shSem, cond_false, shrN] at hz
      obtain ⟨n, hn, rfl⟩ := Option.map_eq_some_iff.1 hz
      obtain rfl := natOf_eq hn
      refine ⟨_, ?_, rfl⟩
      simp [binOp, Op.shift]
      omega
    · simp only [shSem, cond_true, shlN] at hz
      obtain ⟨n, hn, rfl⟩ := Option.map_eq_some_iff.1 hz
      obtain rfl := natOf_eq hn
      refine ⟨_, ?_, rfl⟩
      simp [binOp, Op.shift]
      omega
  · exact absurd h (by simp)
theorem run_eqGuard_plain {op : BinOp} {t : TypeId} {x y : Operand} {u v : Value} (h : ∀ c, u ≠ .agg c) (h' : u ≠ .nilIface) : (eqGuard op t x y u v).run P w = .ok () w := by
  unfold eqGuard
  cases op <;> simp <;> (cases u <;> first | (exact absurd rfl h') | (exact absurd rfl (h _)) | (cases v <;> simp))
theorem bool2_ok {op : BinOp} {g : Bool} (hop : (op = .eql ∧ g = false) ∨ (op = .neq ∧ g = true)) {t : TypeId} (ht : P.underlying t = some .bool) {x y v : AV} {u u' : Value} (hx : RV ρ x u) (hy : RV ρ y u') (h : bool2 g x y = some v) :
    ∃ z, (binOp op t u u').run P w = .ok z w ∧ RV ρ v z ∧ (∀ c, u ≠ .agg c) ∧ u ≠ .nilIface := by
  unfold bool2 at h
  split at h
  · rename_i a b
    injection h with h
    subst h
    rw [rv_bool hx, rv_bool hy]
    rcases hop with ⟨rfl, rfl⟩ | ⟨rfl, rfl⟩
    · refine ⟨.bool (a == b), ?_, by simp [vb, RV, RR, RS], by simp, by simp⟩
      simp only [binOp]
      simp [run_equal_bool w t a b ht]
    · refine ⟨.bool (!(a == b)), ?_, by simp [vb, RV, RR, RS], by simp, by simp⟩
      simp only [binOp]
      simp [run_equal_bool w t a b ht]
  · exact absurd h (by simp)
theorem str2_ok {op : BinOp} {g : Bool} (hop : (op = .eql ∧ g = false) ∨ (op = .neq ∧ g = true)) {t : TypeId} {x y v : AV} {u u' : Value} (hx : RV ρ x u) (hy : RV ρ y u') (h : str2 g x y = some v) :
    ∃ z, (binOp op t u u').run P w = .ok z w ∧ RV ρ v z ∧ (∀ c, u ≠ .agg c) ∧ u ≠ .nilIface := by
  unfold str2 at h
  split at h
  · rename_i a b
    injection h with h
    subst h
    rw [show u = .string a from hx, show u' = .string b from hy]
    rcases hop with ⟨rfl, rfl⟩ | ⟨rfl, rfl⟩
    · refine ⟨.bool (a.toList == b.toList), ?_, by simp [vb, RV, RR, RS], by simp, by simp⟩
      simp [binOp, Op.stringOp]
    · refine ⟨.bool (!(a.toList == b.toList)), ?_, by simp [vb, RV, RR, RS], by simp, by simp⟩
      simp [binOp, Op.stringOp]
  · exact absurd h (by simp)
theorem cat2_ok {t : TypeId} {x y v : AV} {u u' : Value} (hx : RV ρ x u) (hy : RV ρ y u') (h : cat2 x y = some v) :
    ∃ z, (binOp .add t u u').run P w = .ok z w ∧ RV ρ v z := by
  unfold cat2 at h
  split at h
  · rename_i a b
    obtain ⟨hc, h⟩ := cond_some h
    injection h with h
    subst h
    rw [Nat.ble_eq] at hc
    rw [show u = .string a from hx, show u' = .string b from hy]
    refine ⟨.string (a ++ b), ?_, rfl⟩
    have hm : ¬ ((((a.size + b.size : Nat) : Int)) > IntKind.i64.max) := by
      have : IntKind.i64.max = 9223372036854775807 := by decide
      omega
    simp only [binOp, Op.stringOp]
    rw [if_neg hm]
    rfl
  · exact absurd h (by simp)
theorem agg2_ok {op : BinOp} {g : Bool} {ks : List TK} (hop : (op = .eql ∧ g = false) ∨ (op = .neq ∧ g = true)) {t : TypeId} (ht : plainT P 20 t = some ks) (hg : aggP P t = some true) (hm : P.eqGuardType P.depth t = false) {x y v : AV} {u u' : Value} {ox oy : Operand}
    (hx : RV ρ x u) (hy : RV ρ y u') (h : agg2 ks g x y = some v) :
    ∃ z, (do eqGuard op t ox oy u u'; binOp op t u u' : Sem Value).run P w = .ok z w ∧ RV ρ v z := by
  unfold agg2 at h
  split at h
  · rename_i l m
    obtain ⟨r, hr, rfl⟩ := Option.map_eq_some_iff.1 h
    obtain ⟨cs, rfl, hl⟩ := hx
    obtain ⟨ds, rfl, hd⟩ := hy
    have he := run_equal_plain (w := w) ht hg hl hd hr
    rcases hop with ⟨rfl, rfl⟩ | ⟨rfl, rfl⟩
    · refine ⟨.bool r, ?_, by simp [vb, RV, RR, RS]⟩
      simp only [Sem.run_bind, run_eqGuard_agg w _ t _ _ _ _ hm, Result.andThen_ok, binOp, he, Sem.run_pure]
    · refine ⟨.bool (!r), ?_, by simp [vb, RV, RR, RS]⟩
      simp only [Sem.run_bind, run_eqGuard_agg w _ t _ _ _ _ hm, Result.andThen_ok, binOp, he, Sem.run_pure]
  · exact absurd h (by simp)
theorem isNil_slice {op : BinOp} {g : Bool} (hop : (op = .eql ∧ g = false) ∨ (op = .neq ∧ g = true)) {t e : TypeId} (ht : P.underlying t = some (.slice e)) {x v : AV} {u : Value} (hx : RV ρ x u) (h : isNil1 false g x = some v) :
    ∃ z, (binOp op t u (.slice none 0 0)).run P w = .ok z w ∧ RV ρ v z ∧ (∀ c, u ≠ .agg c) ∧ u ≠ .nilIface := by
  have key : ∃ p l c, u = .slice p l c ∧ v = vb (p.isNone != g) := by
    unfold isNil1 at h
    split at h
    · injection h with h; exact ⟨_, _, _, hx, h.symm⟩
    · obtain ⟨cb, base, tot, o, k, _, hx', _⟩ := hx
      injection h with h; exact ⟨_, _, _, hx', h.symm⟩
    · exact absurd h (by simp)
    · exact absurd h (by simp)
    · exact absurd h (by simp)
  obtain ⟨p, l, c, rfl, rfl⟩ := key
  have he : (Op.equal t (.slice p l c) (.slice none 0 0)).run P w = .ok p.isNone w := run_equal_slice_nil w t e p l c ht
  rcases hop with ⟨rfl, rfl⟩ | ⟨rfl, rfl⟩
  · refine ⟨.bool p.isNone, ?_, by simp [vb, RV, RR, RS], by simp, by simp⟩
    simp only [binOp, Sem.run_bind, he, Result.andThen_ok, Sem.run_pure]
  · refine ⟨.bool (!p.isNone), ?_, by simp [vb, RV, RR, RS], by simp, by simp⟩
    simp only [binOp, Sem.run_bind, he, Result.andThen_ok, Sem.run_pure]
theorem isNil_ptr {op : BinOp} {g : Bool} (hop : (op = .eql ∧ g = false) ∨ (op = .neq ∧ g = true)) {t e : TypeId} (ht : P.underlying t = some (.pointer e)) {x v : AV} {u : Value} (hx : RV ρ x u) (h : isNil1 true g x = some v) :
    ∃ z, (binOp op t u (.pointer none)).run P w = .ok z w ∧ RV ρ v z ∧ (∀ c, u ≠ .agg c) ∧ u ≠ .nilIface := by
  have key : ∃ p, u = .pointer p ∧ v = vb (p.isNone != g) := by
    unfold isNil1 at h
    split at h
    · exact absurd h (by simp)
    · exact absurd h (by simp)
    · injection h with h; exact ⟨_, hx, h.symm⟩
    · obtain ⟨cb, base, tot, _, hx'⟩ := hx
      injection h with h; exact ⟨_, hx', h.symm⟩
    · exact absurd h (by simp)
  obtain ⟨p, rfl, rfl⟩ := key
  have he : (Op.equal t (.pointer p) (.pointer none)).run P w = .ok p.isNone w := run_equal_pointer_nil w t p (by simp [Program.pointee, ht])
  rcases hop with ⟨rfl, rfl⟩ | ⟨rfl, rfl⟩
  · refine ⟨.bool p.isNone, ?_, by simp [vb, RV, RR, RS], by simp, by simp⟩
    simp only [binOp, Sem.run_bind, he, Result.andThen_ok, Sem.run_pure]
  · refine ⟨.bool (!p.isNone), ?_, by simp [vb, RV, RR, RS], by simp, by simp⟩
    simp only [binOp, Sem.run_bind, he, Result.andThen_ok, Sem.run_pure]
end
end Go.Proofs.Ytaijmekhfleciaa.Am
