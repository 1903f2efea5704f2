/- Which operations come ahead of which, whatever is drawn; what is asked of a drawn region. -/
import Derived.Test.YtaijmekhfleciaaAmDrw1
set_option linter.unusedVariables false
set_option linter.unusedSimpArgs false
namespace Go.Proofs.Ytaijmekhfleciaa.Am
open Go
theorem go_prefix : ∀ (l : List Oper) (acc : List Nat), ∃ s, befs.go l acc = acc ++ s ∧ s.length = l.length
  | [], acc => ⟨[], by simp [befs.go], rfl⟩
  | o :: l, acc => by
    obtain ⟨s, h1, h2⟩ := go_prefix l (acc ++ [orP acc (preds o)])
    exact ⟨orP acc (preds o) :: s, by simp only [befs.go, h1, List.append_assoc, List.singleton_append], by simp [h2]⟩
theorem go_at : ∀ (l : List Oper) (acc : List Nat) (k : Nat) (o : Oper), l[k]? = some o → (befs.go l acc).getD (acc.length + k) 0 = orP ((befs.go l acc).take (acc.length + k)) (preds o)
  | [], acc, k, o, h => by simp at h
  | o' :: l, acc, 0, o, h => by
    injection h with h
    subst h
    obtain ⟨s, h1, h2⟩ := go_prefix l (acc ++ [orP acc (preds o')])
    simp only [befs.go, h1, Nat.add_zero, List.append_assoc, List.singleton_append]
    simp
  | o' :: l, acc, k + 1, o, h => by
    have := go_at l (acc ++ [orP acc (preds o')]) k o (by simpa using h)
    simp only [List.length_append, List.length_singleton] at this
    simp only [befs.go]
    rw [show acc.length + (k + 1) = acc.length + 1 + k by omega]
    exact this
theorem orP_bit (acc : List Nat) (i : Nat) : ∀ (ps : List Nat), (orP acc ps).testBit i = true ↔ ∃ p ∈ ps, p = i ∨ (acc.getD p 0).testBit i = true
  | [] => by simp [orP]
  | p :: ps => by
    have ih := orP_bit acc i ps
    simp only [orP, Nat.testBit_or, Bool.or_eq_true, ih, Nat.testBit_two_pow, decide_eq_true_eq, List.mem_cons]
    constructor
    · rintro ((h | h) | ⟨q, h1, h2⟩)
      · exact ⟨p, .inl rfl, .inl h⟩
      · exact ⟨p, .inl rfl, .inr h⟩
      · exact ⟨q, .inr h1, h2⟩
    · rintro ⟨q, rfl | h1, h2⟩
      · exact .inl h2
      · exact .inr ⟨q, h1, h2⟩
theorem ahead_iff {l : List Oper} {j i : Nat} {o : Oper} (ho : l[j]? = some o) (hp : ∀ p ∈ preds o, p < j) : ahead (befs l) i j = true ↔ ∃ p ∈ preds o, p = i ∨ ahead (befs l) i p = true := by
  have h := go_at l [] j o ho
  simp only [List.length_nil, Nat.zero_add] at h
  unfold ahead
  rw [show befs l = befs.go l [] from rfl, h, orP_bit]
  have e : ∀ p, p < j → ((befs.go l []).take j).getD p 0 = (befs.go l []).getD p 0 := by
    intro p hpj
    simp only [List.getD, List.getElem?_take, if_pos hpj]
  constructor
  · rintro ⟨p, h1, h2⟩
    exact ⟨p, h1, h2.imp id fun h3 => by rwa [e p (hp p h1)] at h3⟩
  · rintro ⟨p, h1, h2⟩
    exact ⟨p, h1, h2.imp id fun h3 => by rwa [e p (hp p h1)]⟩
theorem mem_range_all {n : Nat} {f : Nat → Bool} (h : (List.range n).all f = true) {k : Nat} (hk : k < n) : f k = true := List.all_eq_true.1 h k (List.mem_range.2 hk)
section
variable {L : List Oper} {ms : List MOr}
theorem preds_lt (h : predsOk L = true) {j : Nat} {o : Oper} (ho : L[j]? = some o) : ∀ p ∈ preds o, p < j := by
  intro p hp
  have hj : j < L.length := (List.getElem?_eq_some_iff.1 ho).1
  have := mem_range_all h hj
  rw [ho] at this
  simpa [Nat.blt_eq] using List.all_eq_true.1 this p hp
theorem ahead_lt (h : predsOk L = true) {i : Nat} : ∀ (j : Nat), j < L.length → ahead (befs L) i j = true → i < j := by
  intro j
  induction j using Nat.strongRecOn with
  | _ j ih =>
    intro hj ha
    have ho : L[j]? = some L[j] := List.getElem?_eq_getElem hj
    obtain ⟨p, h1, h2⟩ := (ahead_iff ho (preds_lt h ho)).1 ha
    have := preds_lt h ho p h1
    rcases h2 with rfl | h2
    · exact this
    · have := ih p this (by omega) h2
      omega
/-- What is done has all done that comes ahead of it. -/
theorem ahead_done (h : predsOk L = true) {D : Nat → Bool} (hD : ∀ j o, L[j]? = some o → D j = true → ∀ p ∈ preds o, D p = true) {i : Nat} : ∀ (j : Nat), j < L.length → D j = true → ahead (befs L) i j = true → D i = true := by
  intro j
  induction j using Nat.strongRecOn with
  | _ j ih =>
    intro hj hd ha
    have ho : L[j]? = some L[j] := List.getElem?_eq_getElem hj
    obtain ⟨p, h1, h2⟩ := (ahead_iff ho (preds_lt h ho)).1 ha
    have hpj := preds_lt h ho p h1
    have hdp := hD j _ ho hd p h1
    rcases h2 with rfl | h2
    · exact hdp
    · exact ih p hpj (by omega) hdp h2
/-- An operation whose preds are done has all done that comes ahead. -/
theorem ahead_ready (h : predsOk L = true) {D : Nat → Bool} (hD : ∀ j o, L[j]? = some o → D j = true → ∀ p ∈ preds o, D p = true) {i k : Nat} {o : Oper} (ho : L[i]? = some o) (hp : ∀ p ∈ preds o, D p = true) (ha : ahead (befs L) k i = true) : D k = true := by
  obtain ⟨p, h1, h2⟩ := (ahead_iff ho (preds_lt h ho)).1 ha
  have hi : i < L.length := (List.getElem?_eq_some_iff.1 ho).1
  have hlt := preds_lt h ho p h1
  rcases h2 with rfl | h2
  · exact hp _ h1
  · exact ahead_done h hD p (by omega) (hp p h1) h2
theorem names_ok {b : List Nat} (h : namesOk b ms = true) {i j : Nat} {mi mj : MOr} (hi : ms[i]? = some mi) (hj : ms[j]? = some mj) (hne : i ≠ j) {t : Nat} (ht : t ∈ mj.names) (hd : mi.dst = some t) : ahead b i j = true ∨ ahead b j i = true := by
  have hil : i < ms.length := (List.getElem?_eq_some_iff.1 hi).1
  have hjl : j < ms.length := (List.getElem?_eq_some_iff.1 hj).1
  have h1 := mem_range_all h hjl
  rw [hj] at h1
  have h2 := List.all_eq_true.1 h1 t ht
  have h3 := mem_range_all h2 hil
  simp only [hi, hd, natBeq, decide_eq_false hne, Bool.false_or] at h3
  simpa [ordered] using h3
theorem pairs_ok {b : List Nat} (h : pairsOk b ms = true) {i j : Nat} (hij : i < j) (hj : j < ms.length) (hc : clsAt ms j = .c) (hi : clsAt ms i = .c ∨ clsAt ms i = .n) : ahead b i j = true := by
  have h1 := mem_range_all h hj
  have h2 := mem_range_all h1 hij
  rw [Bool.or_eq_true] at h2
  rcases h2 with h2 | h2
  · exact h2
  · rw [hc] at h2
    rcases hi with hi | hi <;> rw [hi] at h2 <;> exact absurd h2 (by simp [pairOk])
/-- The load at i is held against what may come in another order. -/
theorem chk_mem (ops : List Oper) {i : Nat} (hi : i < ms.length) (hl : clsAt ms i = .l) : ∃ k ∈ chksOf ops ms, k.i = i ∧ (∀ c, c < ms.length → c ≠ i → clsAt ms c = .c → ahead (befs ops) c i = false → ahead (befs ops) i c = false → c ∈ k.cs) ∧
    (∀ j, j < i → clsAt ms j = .n → ahead (befs ops) j i = false → ahead (befs ops) i j = false → j ∈ k.ns) := by
  refine ⟨⟨i, (List.range ms.length).filter fun c => !(Nat.beq c i) && (match clsAt ms c with | .c => true | _ => false) && !ordered (befs ops) c i, (List.range i).filter fun n => (match clsAt ms n with | .n => true | _ => false) && !ordered (befs ops) n i⟩, ?_, rfl, ?_, ?_⟩
  · unfold chksOf
    rw [List.mem_flatMap]
    refine ⟨i, List.mem_range.2 hi, ?_⟩
    rw [hl]
    exact List.mem_singleton.2 rfl
  · intro c hc hne hcl h1 h2
    simp [List.mem_filter, hc, natBeq, hne, hcl, ordered, h1, h2]
  · intro j hj hcl h1 h2
    simp [List.mem_filter, hj, hcl, ordered, h1, h2]
end
end Go.Proofs.Ytaijmekhfleciaa.Am
