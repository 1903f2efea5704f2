/- Operations that look at no memory: what the small machine tells is what the model does. -/
import Derived.Test.YtaijmekhfleciaaAmRel
import Derived.Laws.Entries
set_option linter.unusedVariables false
set_option linter.unusedSimpArgs false
namespace Go.Proofs.Ytaijmekhfleciaa.Am
open Go

/-! Lists -/
theorem dropN_eq (n : Nat) : ∀ l : List AS, dropN n l = l.drop n := by
  induction n with
  | zero => intro l; rfl
  | succ n ih => intro l; cases l with
    | nil => rfl
    | cons a t => exact ih t
theorem takeX_eq (n : Nat) : ∀ l : List AS, takeX n l = if n ≤ l.length then some (l.take n) else none := by
  induction n with
  | zero => intro l; rw [if_pos (Nat.zero_le _)]; rfl
  | succ n ih => intro l; cases l with
    | nil => simp [takeX]
    | cons a t =>
      show (takeX n t).map (a :: ·) = _
      rw [ih t]
      by_cases h : n ≤ t.length
      · rw [if_pos h, if_pos (by simp; omega)]; rfl
      · rw [if_neg h, if_neg (by simp; omega)]; rfl
theorem seg_eq (l : List AS) (off n : Nat) : seg l off n = if n ≤ l.length - off then some ((l.drop off).take n) else none := by
  unfold seg
  rw [dropN_eq, takeX_eq, List.length_drop]
theorem seg_some {l : List AS} {off n : Nat} {r : List AS} (h : seg l off n = some r) : r.length = n ∧ ∀ j, j < n → r[j]? = l[off + j]? := by
  rw [seg_eq] at h
  split at h
  · rename_i hl
    injection h with h
    subst h
    refine ⟨by simp; omega, fun j hj => ?_⟩
    rw [List.getElem?_take, if_pos hj, List.getElem?_drop]
  · exact absurd h (by simp)
theorem over_eq (xs : List AS) : ∀ l : List AS, over xs l = if xs.length ≤ l.length then some (xs ++ l.drop xs.length) else none := by
  induction xs with
  | nil => intro l; simp [over]
  | cons x xs ih => intro l; cases l with
    | nil => simp [over]
    | cons a t =>
      show (over xs t).map (x :: ·) = _
      rw [ih t]
      by_cases h : xs.length ≤ t.length
      · rw [if_pos h, if_pos (by simp; omega)]; rfl
      · rw [if_neg h, if_neg (by simp; omega)]; rfl
theorem splice_eq (off : Nat) (xs : List AS) : ∀ l : List AS, splice l off xs = if off + xs.length ≤ l.length then some (l.take off ++ (xs ++ l.drop (off + xs.length))) else none := by
  induction off with
  | zero => intro l; show over xs l = _; rw [over_eq]; simp
  | succ off ih => intro l; cases l with
    | nil =>
      show (none : Option (List AS)) = _
      rw [if_neg (by simp)]
    | cons a t =>
      show (splice t off xs).map (a :: ·) = _
      rw [ih t]
      by_cases h : off + xs.length ≤ t.length
      · rw [if_pos h, if_pos (by simp; omega)]
        simp [show off + 1 + xs.length = off + xs.length + 1 by omega]
      · rw [if_neg h, if_neg (by simp; omega)]; rfl
theorem splice_some {l : List AS} {off : Nat} {xs r : List AS} (h : splice l off xs = some r) :
    off + xs.length ≤ l.length ∧ r.length = l.length ∧ ∀ j, r[j]? = if off ≤ j ∧ j < off + xs.length then xs[j - off]? else l[j]? := by
  rw [splice_eq] at h
  split at h
  · rename_i hl
    injection h with h
    subst h
    refine ⟨hl, by simp; omega, fun j => ?_⟩
    by_cases h1 : j < off
    · rw [if_neg (by omega), List.getElem?_append_left (by simp; omega), List.getElem?_take, if_pos h1]
    · rw [List.getElem?_append_right (by simp; omega)]
      rw [List.length_take, show min off l.length = off by omega]
      by_cases h2 : j < off + xs.length
      · rw [if_pos ⟨by omega, h2⟩, List.getElem?_append_left (by omega)]
      · rw [if_neg (by omega), List.getElem?_append_right (by omega), List.getElem?_drop]
        congr 1
        omega
  · exact absurd h (by simp)
theorem getAt_eq (n : Nat) : ∀ l : List AS, getAt l n = l[n]? := by
  induction n with
  | zero => intro l; cases l <;> rfl
  | succ n ih => intro l; cases l with
    | nil => rfl
    | cons a t => exact ih t
theorem repl_length (z : List AS) (n : Nat) : (repl z n).length = n * z.length := by
  induction n with
  | zero => rw [Nat.zero_mul]; rfl
  | succ n ih =>
    show (z ++ repl z n).length = _
    rw [List.length_append, ih, Nat.succ_mul]; omega
theorem repl_at (z : List AS) (n j : Nat) (h : j < n * z.length) : (repl z n)[j]? = z[j % z.length]? := by
  induction n generalizing j with
  | zero => simp at h
  | succ n ih =>
    show (z ++ repl z n)[j]? = _
    by_cases h1 : j < z.length
    · rw [List.getElem?_append_left h1, Nat.mod_eq_of_lt h1]
    · rw [List.getElem?_append_right (by omega), ih (j - z.length) (by rw [Nat.succ_mul] at h; omega)]
      congr 1
      conv => rhs; rw [show j = j - z.length + z.length by omega, Nat.add_mod_right]

/-! Types -/
section
variable {P : Program} {w : World}
theorem run_info {t : TypeId} {i : TypeInfo} (h : P.info? t = some i) : (typeInfo t).run P w = .ok i w := by simp [typeInfo, h]
theorem sizeP_run {t : TypeId} {s : Nat} (h : sizeP P t = some s) : (sizeOf t).run P w = .ok s w := by
  obtain ⟨i, hi, rfl⟩ := Option.map_eq_some_iff.1 h
  simp [sizeOf, run_info hi]
theorem bytesP_run {t : TypeId} {s : Nat} (h : bytesP P t = some s) : ∃ i, (typeInfo t).run P w = .ok i w ∧ i.bytes = s := by
  obtain ⟨i, hi, rfl⟩ := Option.map_eq_some_iff.1 h
  exact ⟨i, run_info hi, rfl⟩
theorem zeroL_run {t : TypeId} {z : List AS} (h : zeroL P t = some z) : ∃ v, (zeroValue t).run P w = .ok v w ∧ cASs v.cells.toList = some z := by
  unfold zeroL at h
  split at h
  · rename_i i hi
    split at h
    · rename_i v hv
      exact ⟨v, by simp [zeroValue, run_info hi, hv], h⟩
    · exact absurd h (by simp)
  · exact absurd h (by simp)
theorem aggP_run {t : TypeId} {g : Bool} (h : aggP P t = some g) : (isAgg t).run P w = .ok g w := by
  unfold aggP at h
  split at h
  · rename_i fs hu
    injection h with h; subst h
    simp [isAgg, run_underlying hu]
  · rename_i fs e hu
    injection h with h; subst h
    simp [isAgg, run_underlying hu]
  · rename_i d hd1 hd2 hu
    injection h with h; subst h
    simp only [isAgg, Sem.run_bind, run_underlying hu, Result.andThen_ok]
    cases d <;> first
      | rfl
      | exact (hd1 _ rfl).elim
      | exact (hd2 _ _ rfl).elim
  · exact absurd h (by simp)
end

/-! Pure operations -/
section
variable {P : Program} {w : World} {ρ : Rho} {nt : Nat} {fr : Fr} {a : Act}
theorem kindEq_eq {k k' : IntKind} (h : kindEq k k' = true) : k = k' := by cases k <;> cases k' <;> first | rfl | exact absurd h (by decide)
theorem kindEq_ne {k k' : IntKind} (h : kindEq k k' = false) : k ≠ k' := by rintro rfl; cases k <;> exact absurd h (by decide)
theorem natBeq (a b : Nat) : Nat.beq a b = decide (a = b) := by
  by_cases h : a = b
  · subst h; simp
  · rw [decide_eq_false h]
    exact Bool.eq_false_iff.2 fun e => h (Nat.eq_of_beq_eq_true e)
theorem intEq_iff (a b : Int) : intEq a b = decide (a = b) := by
  cases a with
  | ofNat m => cases b with
    | ofNat n => simp only [intEq, natBeq]; congr 1; exact propext ⟨fun e => by rw [e], fun e => by injection e⟩
    | negSucc n => simp [intEq]
  | negSucc m => cases b with
    | ofNat n => simp [intEq]
    | negSucc n => simp only [intEq, natBeq]; congr 1; exact propext ⟨fun e => by rw [e], fun e => by injection e⟩
theorem cond_some {α : Type} {c : Bool} {x : Option α} {y : α} (h : cond c x none = some y) : c = true ∧ x = some y := by
  cases c with
  | true => exact ⟨rfl, h⟩
  | false => exact absurd h (by simp)
/-- Two whole numbers of one kind: what the operation does. -/
theorem intOp_run {op : BinOp} {f : IFun} (hf : intOp op = fun x y => some (.q (.int f x y))) {t : TypeId} {k : IntKind} {x y : Int} {z : AS} (h : iSem f k x y = some z) :
    ∃ u, (binOp op t (.int k x) (.int k y)).run P w = .ok u w ∧ RS ρ z u := by
  have e := congrFun (congrFun hf (.t 0)) (.t 0)
  cases op <;> simp only [intOp, Option.some.injEq, MOp.q.injEq, QOp.int.injEq, reduceCtorEq, and_true] at e <;> subst e <;>
    simp only [iSem, fAdd, fSub, fMul, fQuo, fRem, fAnd, fOr, fEql, fNeq, fLss, fLeq, fGtr, fGeq] at h
  all_goals first
    | (injection h with h; subst h; refine ⟨_, ?_, rfl⟩; simp [binOp, Op.intArith, Op.intCmp, Op.intBits]; done)
    | skip
  all_goals
    rw [intEq_iff] at h
    by_cases h0 : y = 0
    · simp [h0] at h
    · simp [h0] at h
      subst h
      refine ⟨_, ?_, rfl⟩
      simp [binOp, Op.intDiv, h0]
end
end Go.Proofs.Ytaijmekhfleciaa.Am
