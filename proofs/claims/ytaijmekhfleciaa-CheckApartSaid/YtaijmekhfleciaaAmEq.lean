/- Values of plain types are told apart cell by cell, in the model too. -/
import Derived.Test.YtaijmekhfleciaaAmQ
import Derived.Laws.StructEq
import Derived.ChangeKeysEq
set_option linter.unusedVariables false
set_option linter.unusedSimpArgs false
namespace Go.Proofs.Ytaijmekhfleciaa.Am
open Go
section
variable {P : Program} {ρ : Rho}
/-- The value of a type, out of its cells. -/
def valOf (g : Bool) (cs : List Value) : Value := cond g (.agg cs.toArray) (cs.headD undef)
theorem run_partOf {w : World} {t : TypeId} {g : Bool} {n off : Nat} {xs : List Value} (hg : aggP P t = some g) (hn : sizeP P t = some n) (h1 : g = false → n = 1) (hl : off + n ≤ xs.length) :
    (part t xs.toArray off).run P w = .ok (valOf g ((xs.drop off).take n)) w := by
  unfold part
  simp only [Sem.run_bind, aggP_run hg, Result.andThen_ok]
  cases g with
  | true =>
    simp only [if_true, Sem.run_bind, sizeP_run hn, Result.andThen_ok, Sem.run_pure, valOf, cond_true]
    congr 2
    simp [List.extract_eq_take_drop]
  | false =>
    obtain rfl := h1 rfl
    have hlt : off < xs.length := by omega
    simp only [Bool.false_eq_true, if_false]
    have e : xs.toArray[off]? = some xs[off] := by simp [hlt]
    rw [e]
    simp only [Sem.run_pure, valOf, cond_false]
    rw [List.drop_eq_getElem_cons hlt]
    rfl
def tkOf : TypeDesc → Option TK
  | .bool => some .b
  | .string => some .s
  | .int _ => some .i
  | _ => none
theorem eqCell_spec {w : World} {d : Nat} {t : TypeId} {k : TypeDesc} {tk : TK} {a b : AS} {x y : Value} {r : Bool} (hu : P.underlying t = some k) (hk : tkOf k = some tk) (he : eqCell tk a b = some r)
    (ha : RS ρ a x) (hb : RS ρ b y) : (Op.equalIn (d + 1) t x y).run P w = .ok r w := by
  cases tk <;> cases a <;> try (simp only [eqCell, reduceCtorEq] at he; done)
  all_goals cases b <;> try (simp only [eqCell, reduceCtorEq] at he; done)
  all_goals
    simp only [RS] at ha hb
    subst ha hb
    simp only [eqCell] at he
    cases k <;> simp only [tkOf, reduceCtorEq, Option.some.injEq] at hk
  · rename_i q n q' n' q''
    obtain ⟨hkk, he2⟩ := cond_some he
    obtain rfl := kindEq_eq hkk
    injection he2 with he2
    subst he2
    rw [run_equalIn_int w d t _ q'' _ _ hu, intEq_iff]
    congr 1
  · injection he with he
    subst he
    exact run_equalIn_bool' w d t _ _ hu
  · injection he with he
    subst he
    simp [Op.equalIn, run_underlying hu]
theorem eqCells_app {ks ks' : List TK} {l m : List AS} {r : Bool} (h : eqCells (ks ++ ks') l m = some r) :
    ∃ x y, eqCells ks (l.take ks.length) (m.take ks.length) = some x ∧ eqCells ks' (l.drop ks.length) (m.drop ks.length) = some y ∧ r = (x && y) ∧ ks.length ≤ l.length ∧ ks.length ≤ m.length := by
  induction ks generalizing l m r with
  | nil => exact ⟨true, r, rfl, h, by simp, Nat.zero_le _, Nat.zero_le _⟩
  | cons k ks ih =>
    cases l with
    | nil => simp [eqCells] at h
    | cons a l =>
      cases m with
      | nil => simp [eqCells] at h
      | cons b m =>
        simp only [List.cons_append, eqCells] at h
        split at h
        · rename_i x y hx hy
          injection h with h
          obtain ⟨x', y', e1, e2, e3, e4, e5⟩ := ih hy
          refine ⟨x && x', y', by simp only [List.length_cons, List.take_succ_cons, eqCells, hx, e1], by simpa using e2, ?_, by simp; omega, by simp; omega⟩
          rw [← h, e3, Bool.and_assoc]
        · exact absurd h (by simp)
theorem eqCells_len {ks : List TK} {l m : List AS} {r : Bool} (h : eqCells ks l m = some r) : l.length = ks.length ∧ m.length = ks.length := by
  induction ks generalizing l m r with
  | nil =>
    cases l <;> cases m <;> simp [eqCells] at h
    exact ⟨rfl, rfl⟩
  | cons k ks ih =>
    cases l with
    | nil => simp [eqCells] at h
    | cons a l =>
      cases m with
      | nil => simp [eqCells] at h
      | cons b m =>
        simp only [eqCells] at h
        split at h
        · rename_i x y hx hy
          have := ih hy
          simp [this]
        · exact absurd h (by simp)
theorem RL.take {l : List AS} {m : List Value} (h : RL ρ l m) (n : Nat) : RL ρ (l.take n) (m.take n) := by
  refine RL.of_at _ _ (by simp [h.length]) fun j a e => ?_
  rw [List.getElem?_take] at e ⊢
  split at e
  · rename_i hj; rw [if_pos hj]; exact h.at j a e
  · exact absurd e (by simp)
theorem RL.drop {l : List AS} {m : List Value} (h : RL ρ l m) (n : Nat) : RL ρ (l.drop n) (m.drop n) := by
  refine RL.of_at _ _ (by simp [h.length]) fun j a e => ?_
  rw [List.getElem?_drop] at e ⊢
  exact h.at _ a e
/-- What plainT tells of a type: its values are told apart so. -/
def EqOk (P : Program) (ρ : Rho) (d : Nat) (t : TypeId) (ks : List TK) : Prop :=
  ∃ g, aggP P t = some g ∧ sizeP P t = some ks.length ∧ (g = false → ks.length = 1) ∧
    ∀ (l m : List AS) (x y : List Value) (r : Bool), RL ρ l x → RL ρ m y → eqCells ks l m = some r → ∀ w, (Op.equalIn d t (valOf g x) (valOf g y)).run P w = .ok r w
theorem eqFields_spec {w : World} {d : Nat} {xs ys : List Value} {L M : List AS} (rec : TypeId → Option (List TK)) (size : Option Nat)
    (ih : ∀ t ks, rec t = some ks → EqOk P ρ d t ks) (hL : RL ρ L xs) (hM : RL ρ M ys) : ∀ (fs : List Field) (off : Nat) (ks : List TK) (r : Bool), plainFs P rec size off fs = some ks → eqCells ks (L.drop off) (M.drop off) = some r →
    (Op.eqFields d xs.toArray ys.toArray fs).run P w = .ok r w := by
  intro fs
  induction fs with
  | nil =>
    intro off ks r hp he
    simp only [plainFs] at hp
    split at hp
    · obtain ⟨_, hp⟩ := cond_some hp
      injection hp with hp
      subst hp
      have h1 := eqCells_len he
      rw [List.eq_nil_of_length_eq_zero h1.1, List.eq_nil_of_length_eq_zero h1.2] at he
      injection he with he
      subst he
      simp [Op.eqFields]
    · exact absurd hp (by simp)
  | cons f fs ihf =>
    intro off ks r hp he
    simp only [plainFs] at hp
    obtain ⟨hc, hp⟩ := cond_some hp
    rw [Bool.and_eq_true] at hc
    obtain ⟨hn, hof⟩ := hc
    split at hp
    case h_2 => exact absurd hp (by simp)
    rename_i k1 hr
    obtain ⟨k2, hp2, rfl⟩ := Option.map_eq_some_iff.1 hp
    obtain ⟨g, hg, hsz, h1, heq⟩ := ih f.type k1 hr
    have hoff : f.offset = off := by simpa [natBeq] using hof
    obtain ⟨x, y, e1, e2, rfl, l1, l2⟩ := eqCells_app he
    rw [List.drop_drop, List.drop_drop] at e2
    rw [List.length_drop] at l1 l2
    have hx := hL.length
    have hy := hM.length
    have hz : 0 < k1.length ∨ k1.length = 0 := by omega
    have hname : f.name ≠ "_" := by simpa using hn
    have rx := heq _ _ ((xs.drop off).take k1.length) ((ys.drop off).take k1.length) x ((hL.drop off).take _) ((hM.drop off).take _) e1 w
    have rrest := ihf (off + k1.length) k2 y hp2 e2
    by_cases hb : off + k1.length ≤ xs.length ∧ off + k1.length ≤ ys.length
    · simp only [Op.eqFields, hname, ne_eq, not_false_eq_true, if_true, Sem.run_bind, hoff, run_partOf (w := w) hg hsz h1 hb.1, run_partOf (w := w) hg hsz h1 hb.2, Result.andThen_ok, rx]
      cases x with
      | true => simpa using rrest
      | false => simp
    · -- nothing is left of the lists, and the part is empty: a struct without cells
      have h0 : k1.length = 0 := by omega
      cases g with
      | false => exact absurd (h1 rfl) (by omega)
      | true =>
        have ev : ∀ zs : List Value, (part f.type zs.toArray off).run P w = .ok (valOf true ((zs.drop off).take k1.length)) w := by
          intro zs
          unfold part
          simp only [Sem.run_bind, aggP_run hg, Result.andThen_ok, if_true, sizeP_run hsz, Sem.run_pure, valOf, cond_true]
          congr 2
          simp [List.extract_eq_take_drop]
        simp only [Op.eqFields, hname, ne_eq, not_false_eq_true, if_true, Sem.run_bind, hoff, ev, Result.andThen_ok, rx]
        cases x with
        | true => simpa using rrest
        | false => simp
theorem eqItems_spec {w : World} {d : Nat} {xs ys : List Value} {L M : List AS} {e : TypeId} {ks : List TK} (hk : EqOk P ρ d e ks) (hL : RL ρ L xs) (hM : RL ρ M ys) : ∀ (k i : Nat) (r : Bool), eqCells (kRep ks k) (L.drop (i * ks.length)) (M.drop (i * ks.length)) = some r → 0 < ks.length →
    (Op.eqItems d e ks.length xs.toArray ys.toArray (List.range' i k)).run P w = .ok r w := by
  obtain ⟨g, hg, hsz, h1, heq⟩ := hk
  intro k
  induction k with
  | zero =>
    intro i r he h0
    have h1 := eqCells_len he
    rw [List.eq_nil_of_length_eq_zero h1.1, List.eq_nil_of_length_eq_zero h1.2] at he
    injection he with he
    subst he
    simp [Op.eqItems]
  | succ k ihk =>
    intro i r he h0
    have hx := hL.length
    have hy := hM.length
    obtain ⟨x, y, e1, e2, rfl, l1, l2⟩ := eqCells_app (ks := ks) (ks' := kRep ks k) he
    rw [List.drop_drop, List.drop_drop, ← Nat.succ_mul] at e2
    rw [List.length_drop] at l1 l2
    have rx := heq _ _ ((xs.drop (i * ks.length)).take ks.length) ((ys.drop (i * ks.length)).take ks.length) x ((hL.drop _).take _) ((hM.drop _).take _) e1 w
    have rrest := ihk (i + 1) y e2 h0
    rw [List.range'_succ]
    simp only [Op.eqItems, Sem.run_bind, run_partOf (w := w) hg hsz h1 (show i * ks.length + ks.length ≤ xs.length by omega), run_partOf (w := w) hg hsz h1 (show i * ks.length + ks.length ≤ ys.length by omega), Result.andThen_ok, rx]
    cases x with
    | true => simpa using rrest
    | false => simp
theorem kRep_length (ks : List TK) (n : Nat) : (kRep ks n).length = n * ks.length := by
  induction n with
  | zero => simp [kRep]
  | succ n ih => simp only [kRep, List.length_append, ih, Nat.succ_mul]; omega
theorem plainFs_length (rec : TypeId → Option (List TK)) (size : Option Nat) : ∀ (fs : List Field) (off : Nat) (ks : List TK), plainFs P rec size off fs = some ks → size = some (off + ks.length) := by
  intro fs
  induction fs with
  | nil =>
    intro off ks hp
    simp only [plainFs] at hp
    split at hp
    · obtain ⟨h, hp⟩ := cond_some hp
      injection hp with hp
      subst hp
      rw [natBeq, decide_eq_true_eq] at h
      simp [h]
    · exact absurd hp (by simp)
  | cons f fs ih =>
    intro off ks hp
    simp only [plainFs] at hp
    obtain ⟨_, hp⟩ := cond_some hp
    split at hp
    case h_2 => exact absurd hp (by simp)
    obtain ⟨k2, hp2, rfl⟩ := Option.map_eq_some_iff.1 hp
    rw [ih _ _ hp2, List.length_append, Nat.add_assoc]
theorem plain_spec (ρ : Rho) (D : Nat) : ∀ (d : Nat) (t : TypeId) (ks : List TK), plainT P d t = some ks → EqOk P ρ (D + d) t ks := by
  intro d
  induction d with
  | zero => intro t ks h; exact absurd h (by simp [plainT])
  | succ d ih =>
    intro t ks h
    have one : ∀ {k : TypeDesc} {tk : TK}, P.underlying t = some k → tkOf k = some tk → plain1 P t tk = some ks → EqOk P ρ (D + (d + 1)) t ks := by
      intro k tk hu hk h
      unfold plain1 at h
      split at h
      · rename_i hs
        injection h with h
        subst h
        refine ⟨false, by unfold aggP; rw [hu]; cases k <;> first | rfl | simp [tkOf] at hk, hs, fun _ => rfl, fun l m x y r hx hy he w => ?_⟩
        have hl := eqCells_len he
        match l, m, hl with
        | [a], [b], _ =>
          match x, y, hx, hy with
          | [u], [v], ⟨hu1, _⟩, ⟨hv1, _⟩ =>
            simp only [eqCells] at he
            split at he
            · rename_i p q hp hq
              injection hq with hq
              injection he with he
              refine eqCell_spec hu hk ?_ hu1 hv1
              rw [hp, ← he, ← hq, Bool.and_true]
            · exact absurd he (by simp)
      · exact absurd h (by simp)
    simp only [plainT] at h
    split at h
    · rename_i hu; exact one hu rfl h
    · rename_i hu; exact one hu rfl h
    · rename_i hu; exact one hu rfl h
    · rename_i fs hu
      have hst : P.stoodInHeld t = false ∧ plainFs P (plainT P d) (sizeP P t) 0 fs.toList = some ks := by
        cases hs : P.stoodInHeld t with
        | true => rw [hs] at h; exact absurd h (by simp)
        | false => rw [hs] at h; exact ⟨rfl, h⟩
      have hfs : P.fieldsOf t = fs := by simp [Program.fieldsOf, hu]
      refine ⟨true, by unfold aggP; rw [hu], by rw [plainFs_length _ _ _ _ _ hst.2]; simp, fun e => by simp at e, fun l m x y r hx hy he w => ?_⟩
      show (Op.equalIn (D + d + 1) t (.agg x.toArray) (.agg y.toArray)).run P w = _
      rw [run_equalIn_struct w (D + d) t _ _ (by rw [hfs]; exact hu) hst.1, hfs]
      exact eqFields_spec (plainT P d) (sizeP P t) (fun t' ks' e => ih t' ks' e) hx hy fs.toList 0 ks r hst.2 (by simpa using he)
    · rename_i n e hu
      split at h
      · rename_i k1 s m h1 hs hm
        obtain ⟨hc, h⟩ := cond_some h
        injection h with h
        subst h
        simp only [Bool.and_eq_true, natBeq, decide_eq_true_eq, Nat.blt_eq] at hc
        obtain ⟨hc1, hc2, hc3⟩ := hc
        obtain ⟨i, hi, him⟩ := Option.map_eq_some_iff.1 hm
        refine ⟨true, by unfold aggP; rw [hu], by rw [hs, kRep_length, hc1, hc3], fun e => by simp at e, fun l m' x y r hx hy he w => ?_⟩
        show (Op.equalIn (D + d + 1) t (.agg x.toArray) (.agg y.toArray)).run P w = _
        rw [run_equalIn_array w (D + d) _ _ hu hi]
        have hce : P.cellsOf e = k1.length := by rw [← hc3, ← him]; simp [Program.cellsOf, hi]
        rw [hce, List.range_eq_range']
        exact eqItems_spec (ih e k1 h1) hx hy n 0 r (by simpa using he) (by omega)
      · exact absurd h (by simp)
    · exact absurd h (by simp)
/-- '==' of two values of a plain type. -/
theorem run_equal_plain {w : World} {t : TypeId} {ks : List TK} (h : plainT P 20 t = some ks) (hg : aggP P t = some true) {l m : List AS} {x y : List Value} {r : Bool} (hx : RL ρ l x) (hy : RL ρ m y) (he : eqCells ks l m = some r) :
    (Op.equal t (.agg x.toArray) (.agg y.toArray)).run P w = .ok r w := by
  obtain ⟨g, hg', _, _, heq⟩ := plain_spec ρ 9980 20 t ks h
  obtain rfl : g = true := by rw [hg] at hg'; injection hg' with hg'; exact hg'.symm
  exact heq l m x y r hx hy he w
end
end Go.Proofs.Ytaijmekhfleciaa.Am
