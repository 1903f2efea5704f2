/- Operations in a drawn order: frames and heaps after a set of them. -/
import Derived.Test.YtaijmekhfleciaaAmOver
set_option linter.unusedVariables false
set_option linter.unusedSimpArgs false
namespace Go.Proofs.Ytaijmekhfleciaa.Am
open Go
section
variable (F : Nat → Fr) (H : Nat → HS) (dst : Nat → Option Nat) (cls : Nat → Cls) (D : Nat → Bool)
noncomputable def valF (k : Nat) : AV := match dst k with
  | some d => gets (F (k + 1)) d
  | none => und
/-- The frame when the operations of D are done. -/
noncomputable def frD : Nat → Fr
  | 0 => F 0
  | k + 1 => bif D k then putD (frD k) (dst k) (valF F dst k) else frD k
def inNew (k id : Nat) : Bool := Nat.ble (H k).nx id && Nat.blt id (H (k + 1)).nx
/-- The heap then. -/
noncomputable def GD : Nat → Nat → Option Blk
  | 0 => (H 0).get
  | k + 1 => bif D k then (match cls k with
    | .c => (H (k + 1)).get
    | .n => fun id => bif inNew H k id then (H (k + 1)).get id else GD k id
    | _ => GD k) else GD k
end
theorem gets_putD (fr : Fr) (d : Option Nat) (v : AV) (t : Nat) : gets (putD fr d v) t = if d = some t then v else gets fr t := by
  cases d with
  | none => simp [putD]
  | some d =>
    show gets (sets fr d v) t = _
    rw [gets_sets]
    by_cases h : t = d
    · subst h; simp
    · rw [if_neg h, if_neg (by intro e; injection e with e; exact h e.symm)]
theorem inNew_iff {H : Nat → HS} {k id : Nat} : inNew H k id = true ↔ (H k).nx ≤ id ∧ id < (H (k + 1)).nx := by
  simp [inNew, Nat.blt_eq]
section
variable {F : Nat → Fr} {H : Nat → HS} {dst : Nat → Option Nat} {cls : Nat → Cls} {D D' : Nat → Bool} {n i : Nat}
/-- Each step writes its own temporary, no other. -/
def FStep (F : Nat → Fr) (dst : Nat → Option Nat) (n : Nat) : Prop := ∀ k, k < n → ∀ t, dst k ≠ some t → gets (F (k + 1)) t = gets (F k) t
theorem frD_step (k t : Nat) : gets (frD F dst D (k + 1)) t = if D k = true ∧ dst k = some t then gets (F (k + 1)) t else gets (frD F dst D k) t := by
  show gets (bif D k then putD (frD F dst D k) (dst k) (valF F dst k) else frD F dst D k) t = _
  cases hD : D k with
  | false => simp
  | true =>
    rw [cond_true, gets_putD]
    by_cases h : dst k = some t
    · simp [h, valF]
    · simp [h]
theorem frD_agree (hF : FStep F dst n) {t : Nat} (hi : i ≤ n) (h : ∀ k, k < n → dst k = some t → (D k = true ↔ k < i)) : gets (frD F dst D n) t = gets (F i) t := by
  have key : ∀ m, m ≤ n → gets (frD F dst D m) t = gets (F (min m i)) t := by
    intro m
    induction m with
    | zero => intro _; simp [frD]
    | succ m ih =>
      intro hm
      rw [frD_step]
      have ih := ih (by omega)
      by_cases hd : dst m = some t
      · by_cases hlt : m < i
        · rw [if_pos ⟨(h m (by omega) hd).2 hlt, hd⟩, show min (m + 1) i = m + 1 by omega]
        · rw [if_neg (fun hh => hlt ((h m (by omega) hd).1 hh.1)), ih]
          congr 2
          omega
      · rw [if_neg (fun hh => hd hh.2), ih]
        by_cases hlt : m < i
        · rw [show min (m + 1) i = m + 1 by omega, show min m i = m by omega]
          exact (hF m (by omega) t hd).symm
        · congr 2
          omega
  rw [key n (Nat.le_refl _)]
  congr 2
  omega
/-- One more operation is done. -/
theorem frD_more (hF : FStep F dst n) (hi : i < n) (hD : D i = false) (hD' : ∀ k, D' k = (D k || Nat.beq k i)) (h : ∀ t k, dst i = some t → k < n → dst k = some t → (D k = true ↔ k < i)) (t : Nat) :
    gets (frD F dst D' n) t = if dst i = some t then gets (F (i + 1)) t else gets (frD F dst D n) t := by
  by_cases hd : dst i = some t
  · rw [if_pos hd]
    refine frD_agree hF (by omega) fun k hk hdk => ?_
    have := h t k hd hk hdk
    rw [hD', Bool.or_eq_true, this, natBeq, decide_eq_true_eq]
    omega
  · rw [if_neg hd]
    have key : ∀ m, gets (frD F dst D' m) t = gets (frD F dst D m) t := by
      intro m
      induction m with
      | zero => rfl
      | succ m ih =>
        rw [frD_step, frD_step, ih]
        by_cases hm : m = i
        · subst hm
          rw [if_neg (fun hh => hd hh.2), if_neg (fun hh => hd hh.2)]
        · have : D' m = D m := by rw [hD', natBeq, decide_eq_false hm, Bool.or_false]
          rw [this]
    exact key n
/-- What is known of the trace's heaps. -/
structure HStep (H : Nat → HS) (cls : Nat → Cls) (n : Nat) : Prop where
  mono : ∀ k, k < n → (H k).nx ≤ (H (k + 1)).nx
  wf : ∀ k, k ≤ n → (H k).wf
  same : ∀ k, k < n → (match cls k with | .q | .l => true | _ => false) = true → H (k + 1) = H k
  news : ∀ k, k < n → (match cls k with | .n => true | _ => false) = true → (H (k + 1)).nx ≤ (H k).nx + 1 ∧ ∀ id, inNew H k id = false → (H (k + 1)).get id = (H k).get id
theorem HStep.le (hH : HStep H cls n) : ∀ {i j : Nat}, i ≤ j → j ≤ n → (H i).nx ≤ (H j).nx := by
  intro i j hij hj
  induction j with
  | zero => obtain rfl : i = 0 := by omega
            exact Nat.le_refl _
  | succ j ih =>
    by_cases e : i = j + 1
    · subst e; exact Nat.le_refl _
    · exact Nat.le_trans (ih (by omega) (by omega)) (hH.mono j (by omega))
theorem isC_or (x : Cls) : x = .q ∨ x = .l ∨ x = .n ∨ x = .c := by cases x <;> simp
/-- At a boundary of the operations that write, the heap is the trace's. -/
theorem GD_at (hH : HStep H cls n) {p : Nat} (hp : p ≤ n) (hC : ∀ k, k < n → cls k = .c → (D k = true ↔ k < p)) {id : Nat} (hid : id < (H p).nx) (hN : ∀ k, k < p → cls k = .n → D k = false → inNew H k id = false) :
    GD H cls D n id = (H p).get id := by
  have lo : ∀ k, k ≤ p → GD H cls D k id = (H k).get id := by
    intro k
    induction k with
    | zero => intro _; rfl
    | succ k ih =>
      intro hk
      have ih := ih (by omega)
      show (bif D k then (match cls k with
        | .c => (H (k + 1)).get
        | .n => fun id => bif inNew H k id then (H (k + 1)).get id else GD H cls D k id
        | _ => GD H cls D k) else GD H cls D k) id = _
      rcases isC_or (cls k) with hc | hc | hc | hc
      · rw [hH.same k (by omega) (by rw [hc]), hc]; cases D k <;> exact ih
      · rw [hH.same k (by omega) (by rw [hc]), hc]; cases D k <;> exact ih
      · rw [hc]
        cases hD : D k with
        | false =>
          rw [cond_false, ih]
          exact ((hH.news k (by omega) (by rw [hc])).2 id (hN k (by omega) hc hD)).symm
        | true =>
          rw [cond_true]
          show (bif inNew H k id then (H (k + 1)).get id else GD H cls D k id) = _
          cases hnew : inNew H k id with
          | true => rfl
          | false => rw [cond_false, ih]; exact ((hH.news k (by omega) (by rw [hc])).2 id hnew).symm
      · rw [(hC k (by omega) hc).2 (by omega), hc]
        rfl
  have up : ∀ m, p ≤ m → m ≤ n → GD H cls D m id = (H p).get id := by
    intro m hm
    induction m with
    | zero => intro _; obtain rfl : p = 0 := by omega
              rfl
    | succ m ih =>
      intro hn
      by_cases e : p = m + 1
      · subst e; exact lo _ (Nat.le_refl _)
      · have ih := ih (by omega) (by omega)
        show (bif D m then (match cls m with
          | .c => (H (m + 1)).get
          | .n => fun id => bif inNew H m id then (H (m + 1)).get id else GD H cls D m id
          | _ => GD H cls D m) else GD H cls D m) id = _
        rcases isC_or (cls m) with hc | hc | hc | hc
        · rw [hc]; cases D m <;> exact ih
        · rw [hc]; cases D m <;> exact ih
        · rw [hc]
          cases D m with
          | false => exact ih
          | true =>
            rw [cond_true]
            show (bif inNew H m id then (H (m + 1)).get id else GD H cls D m id) = _
            have : inNew H m id = false := by
              cases hnew : inNew H m id with
              | false => rfl
              | true =>
                have := (inNew_iff.1 hnew).1
                have := hH.le (show p ≤ m by omega) (by omega)
                omega
            rw [this, cond_false]; exact ih
        · have : D m = false := by
            cases hD : D m with
            | false => rfl
            | true => have := (hC m (by omega) hc).1 hD; omega
          rw [this]; exact ih
  exact up n hp (Nat.le_refl _)
/-- One more operation that looks only: the heap stays. -/
theorem GD_look (hcl : cls i = .q ∨ cls i = .l) (hD' : ∀ k, D' k = (D k || Nat.beq k i)) (m : Nat) : GD H cls D' m = GD H cls D m := by
  induction m with
  | zero => rfl
  | succ m ih =>
    show (bif D' m then (match cls m with
      | .c => (H (m + 1)).get
      | .n => fun id => bif inNew H m id then (H (m + 1)).get id else GD H cls D' m id
      | _ => GD H cls D' m) else GD H cls D' m) = (bif D m then (match cls m with
      | .c => (H (m + 1)).get
      | .n => fun id => bif inNew H m id then (H (m + 1)).get id else GD H cls D m id
      | _ => GD H cls D m) else GD H cls D m)
    rw [ih]
    by_cases hm : m = i
    · subst hm
      rcases hcl with hc | hc <;> rw [hc] <;> cases D' m <;> cases D m <;> rfl
    · have : D' m = D m := by rw [hD', natBeq, decide_eq_false hm, Bool.or_false]
      rw [this]
/-- One more operation that makes a block. -/
theorem GD_new (hH : HStep H cls n) (hi : i < n) (hD : D i = false) (hcl : cls i = .n) (hC : ∀ k, k < n → i < k → cls k = .c → D k = false) (hD' : ∀ k, D' k = (D k || Nat.beq k i)) (id : Nat) :
    GD H cls D' n id = bif inNew H i id then (H (i + 1)).get id else GD H cls D n id := by
  have lo : ∀ m, m ≤ i → GD H cls D' m = GD H cls D m := by
    intro m
    induction m with
    | zero => intro _; rfl
    | succ m ih =>
      intro hm
      have : D' m = D m := by rw [hD', natBeq, decide_eq_false (by omega), Bool.or_false]
      show (bif D' m then (match cls m with
        | .c => (H (m + 1)).get
        | .n => fun id => bif inNew H m id then (H (m + 1)).get id else GD H cls D' m id
        | _ => GD H cls D' m) else GD H cls D' m) = (bif D m then (match cls m with
        | .c => (H (m + 1)).get
        | .n => fun id => bif inNew H m id then (H (m + 1)).get id else GD H cls D m id
        | _ => GD H cls D m) else GD H cls D m)
      rw [ih (by omega), this]
  have up : ∀ m, i < m → m ≤ n → GD H cls D' m id = bif inNew H i id then (H (i + 1)).get id else GD H cls D m id := by
    intro m hm
    induction m with
    | zero => omega
    | succ m ih =>
      intro hn
      show (bif D' m then (match cls m with
        | .c => (H (m + 1)).get
        | .n => fun id => bif inNew H m id then (H (m + 1)).get id else GD H cls D' m id
        | _ => GD H cls D' m) else GD H cls D' m) id = bif inNew H i id then (H (i + 1)).get id else (bif D m then (match cls m with
        | .c => (H (m + 1)).get
        | .n => fun id => bif inNew H m id then (H (m + 1)).get id else GD H cls D m id
        | _ => GD H cls D m) else GD H cls D m) id
      by_cases e : m = i
      · subst e
        have : D' m = true := by rw [hD', natBeq, decide_eq_true rfl, Bool.or_true]
        rw [this, hD, hcl, lo m (Nat.le_refl _)]
        rfl
      · have ih := ih (by omega) (by omega)
        have hDm : D' m = D m := by rw [hD', natBeq, decide_eq_false e, Bool.or_false]
        rw [hDm]
        rcases isC_or (cls m) with hc | hc | hc | hc
        · rw [hc]; cases D m <;> exact ih
        · rw [hc]; cases D m <;> exact ih
        · rw [hc]
          cases D m with
          | false => exact ih
          | true =>
            simp only [cond_true]
            cases hnew : inNew H m id with
            | false => simp only [cond_false]; exact ih
            | true =>
              have h1 := (inNew_iff.1 hnew).1
              have : inNew H i id = false := by
                cases h2 : inNew H i id with
                | false => rfl
                | true =>
                  have := (inNew_iff.1 h2).2
                  have := hH.le (show i + 1 ≤ m by omega) (by omega)
                  omega
              rw [this]
              rfl
        · rw [hC m (by omega) (by omega) hc]; exact ih
  exact up n hi (Nat.le_refl _)
/-- One more operation that reads and writes. -/
theorem GD_write (hH : HStep H cls n) (hi : i < n) (hcl : cls i = .c) (hC : ∀ k, k < n → i < k → cls k = .c → D k = false) (hD' : ∀ k, D' k = (D k || Nat.beq k i)) (id : Nat) :
    GD H cls D' n id = (H (i + 1)).get id ∨ (GD H cls D' n id = GD H cls D n id ∧ (H i).nx ≤ id) := by
  have up : ∀ m, i < m → m ≤ n → GD H cls D' m id = (H (i + 1)).get id ∨ (GD H cls D' m id = GD H cls D m id ∧ (H i).nx ≤ id) := by
    intro m hm
    induction m with
    | zero => omega
    | succ m ih =>
      intro hn
      show (bif D' m then (match cls m with
        | .c => (H (m + 1)).get
        | .n => fun id => bif inNew H m id then (H (m + 1)).get id else GD H cls D' m id
        | _ => GD H cls D' m) else GD H cls D' m) id = (H (i + 1)).get id ∨ ((bif D' m then (match cls m with
        | .c => (H (m + 1)).get
        | .n => fun id => bif inNew H m id then (H (m + 1)).get id else GD H cls D' m id
        | _ => GD H cls D' m) else GD H cls D' m) id = (bif D m then (match cls m with
        | .c => (H (m + 1)).get
        | .n => fun id => bif inNew H m id then (H (m + 1)).get id else GD H cls D m id
        | _ => GD H cls D m) else GD H cls D m) id ∧ _)
      by_cases e : m = i
      · subst e
        have : D' m = true := by rw [hD', natBeq, decide_eq_true rfl, Bool.or_true]
        rw [this, hcl]
        exact .inl rfl
      · have ih := ih (by omega) (by omega)
        have hDm : D' m = D m := by rw [hD', natBeq, decide_eq_false e, Bool.or_false]
        rw [hDm]
        rcases isC_or (cls m) with hc | hc | hc | hc
        · rw [hc]; cases D m <;> exact ih
        · rw [hc]; cases D m <;> exact ih
        · rw [hc]
          cases D m with
          | false => exact ih
          | true =>
            simp only [cond_true]
            cases hnew : inNew H m id with
            | false => simp only [cond_false]; exact ih
            | true =>
              have h1 := (inNew_iff.1 hnew).1
              have := hH.le (show i ≤ m by omega) (by omega)
              exact .inr ⟨rfl, by omega⟩
        · rw [hC m (by omega) (by omega) hc]; exact ih
  exact up n hi (Nat.le_refl _)
end
end Go.Proofs.Ytaijmekhfleciaa.Am
