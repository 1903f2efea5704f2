/- Memory: what is frozen (G), what is one's own (a list of blocks), slices that read as lists. -/
import Derived.Test.YtaijmekhfleciaaAmRun
set_option linter.unusedVariables false
set_option linter.unusedSimpArgs false
namespace Go.Proofs.Ytaijmekhfleciaa.Am
open Go
abbrev Gm := Nat → Option Blk
def Gsub (G G' : Gm) : Prop := ∀ id b, G id = some b → G' id = some b
theorem Gsub.refl (G : Gm) : Gsub G G := fun _ _ h => h
theorem Gsub.trans {A B C : Gm} (h : Gsub A B) (k : Gsub B C) : Gsub A C := fun id b x => k id b (h id b x)
def gadd (G : Gm) (id : Nat) (b : Blk) : Gm := fun k => if k = id then some b else G k
/-- The heap holds what is frozen, and one's own blocks, each apart. -/
structure HA (G : Gm) (own : List (Nat × Blk)) (h : HS) : Prop where
  wf : h.wf
  gg : ∀ id b, G id = some b → h.get id = some b
  ow : ∀ p ∈ own, h.get p.1 = some p.2
  nd : own.Pairwise fun p q => p.1 ≠ q.1
  dj : ∀ p ∈ own, G p.1 = none
section
variable {G G' : Gm} {own own' : List (Nat × Blk)} {h h' : HS}
theorem hget_put (h : HS) (id : Nat) (x : Option Blk) (k : Nat) : (h.put id x).get k = if k = id then x else h.get k := get_set h.t id k x
theorem hget_new (h : HS) (b : Blk) (k : Nat) : (h.new b).get k = if k = h.nx then some b else h.get k := get_set h.t h.nx k (some b)
theorem HA.lt (ha : HA G own h) {id : Nat} {b : Blk} (hg : h.get id = some b) : id < h.nx := by
  by_cases hl : id < h.nx
  · exact hl
  · rw [ha.wf id (by omega)] at hg; exact absurd hg (by simp)
theorem HA.glt (ha : HA G own h) {id : Nat} {b : Blk} (hg : G id = some b) : id < h.nx := ha.lt (ha.gg id b hg)
theorem HA.new (ha : HA G own h) (b : Blk) : HA G ((h.nx, b) :: own) (h.new b) := by
  refine ⟨fun id hid => ?_, fun id c hg => ?_, fun p hp => ?_, ?_, fun p hp => ?_⟩
  · have hid' : h.nx + 1 ≤ id := hid
    rw [hget_new, if_neg (by omega)]; exact ha.wf id (by omega)
  · rw [hget_new, if_neg (by have := ha.glt hg; omega)]; exact ha.gg id c hg
  · rw [hget_new]
    rcases List.mem_cons.1 hp with rfl | hp
    · simp
    · rw [if_neg (by have := ha.lt (ha.ow p hp); omega)]; exact ha.ow p hp
  · refine List.pairwise_cons.2 ⟨fun p hp => ?_, ha.nd⟩
    have := ha.lt (ha.ow p hp)
    show h.nx ≠ p.1
    omega
  · rcases List.mem_cons.1 hp with rfl | hp
    · show G h.nx = none
      cases hg : G h.nx with
      | none => rfl
      | some c => have := ha.glt hg; omega
    · exact ha.dj p hp
/-- Place in a list: what stands there, what stands there then. -/
inductive At : List (Nat × Blk) → Nat → Blk → Blk → List (Nat × Blk) → Prop
  | here {id b b' l} : At ((id, b) :: l) id b b' ((id, b') :: l)
  | there {p l id b b' l'} : At l id b b' l' → At (p :: l) id b b' (p :: l')
inductive Rm : List (Nat × Blk) → Nat → Blk → List (Nat × Blk) → Prop
  | here {id b l} : Rm ((id, b) :: l) id b l
  | there {p l id b l'} : Rm l id b l' → Rm (p :: l) id b (p :: l')
inductive Mm : List (Nat × Blk) → Nat → Blk → Prop
  | here {id b l} : Mm ((id, b) :: l) id b
  | there {p l id b} : Mm l id b → Mm (p :: l) id b
theorem Mm.mem {id : Nat} {b : Blk} (hm : Mm own id b) : (id, b) ∈ own := by
  induction hm with
  | here => exact List.mem_cons_self
  | there _ ih => exact List.mem_cons_of_mem _ ih
theorem At.mem {id : Nat} {b b' : Blk} (hm : At own id b b' own') : (id, b) ∈ own := by
  induction hm with
  | here => exact List.mem_cons_self
  | there _ ih => exact List.mem_cons_of_mem _ ih
theorem At.ids {id : Nat} {b b' : Blk} (hm : At own id b b' own') : own'.map (·.1) = own.map (·.1) := by
  induction hm with
  | here => rfl
  | there _ ih => simp [ih]
theorem At.of {id : Nat} {b b' : Blk} (hm : At own id b b' own') : ∀ p ∈ own', p = (id, b') ∨ p ∈ own := by
  induction hm with
  | here => intro p hp; rcases List.mem_cons.1 hp with rfl | hp; exact .inl rfl; exact .inr (List.mem_cons_of_mem _ hp)
  | there _ ih =>
    intro p hp
    rcases List.mem_cons.1 hp with rfl | hp
    · exact .inr List.mem_cons_self
    · rcases ih p hp with h | h; exact .inl h; exact .inr (List.mem_cons_of_mem _ h)
theorem Rm.mem {id : Nat} {b : Blk} (hm : Rm own id b own') : (id, b) ∈ own := by
  induction hm with
  | here => exact List.mem_cons_self
  | there _ ih => exact List.mem_cons_of_mem _ ih
theorem Rm.sub {id : Nat} {b : Blk} (hm : Rm own id b own') : own'.Sublist own := by
  induction hm with
  | here => exact List.sublist_cons_self _ _
  | there _ ih => exact ih.cons_cons _
theorem pw_ids : ∀ {l : List (Nat × Blk)}, (l.Pairwise fun p q => p.1 ≠ q.1) ↔ (l.map (·.1)).Pairwise (· ≠ ·) := by
  intro l; rw [List.pairwise_map]
theorem HA.inj (ha : HA G own h) {id : Nat} {b c : Blk} (h1 : (id, b) ∈ own) (h2 : (id, c) ∈ own) : b = c := by
  have e1 := ha.ow _ h1
  have e2 := ha.ow _ h2
  exact Option.some.inj (e1.symm.trans e2)
theorem At.pw {id : Nat} {b b' : Blk} (hm : At own id b b' own') (hp : own.Pairwise fun p q => p.1 ≠ q.1) : ∀ q ∈ own', q.1 = id → q = (id, b') := by
  induction hm with
  | here =>
    intro q hq e
    rcases List.mem_cons.1 hq with rfl | hq
    · rfl
    · exact absurd e.symm ((List.pairwise_cons.1 hp).1 q hq)
  | there hm ih =>
    rename_i p l id b b' l'
    intro q hq e
    rcases List.mem_cons.1 hq with rfl | hq
    · exact absurd e ((List.pairwise_cons.1 hp).1 _ hm.mem)
    · exact ih (List.pairwise_cons.1 hp).2 q hq e
theorem HA.put (ha : HA G own h) {id : Nat} {b b' : Blk} (hm : At own id b b' own') : HA G own' (h.put id (some b')) := by
  have hmem := ha.ow _ hm.mem
  have hlt := ha.lt hmem
  refine ⟨fun k hk => ?_, fun k c hg => ?_, fun p hp => ?_, ?_, fun p hp => ?_⟩
  · have hk' : h.nx ≤ k := hk
    rw [hget_put, if_neg (by have : id < h.nx := hlt; omega)]; exact ha.wf k hk'
  · have : k ≠ id := fun e => by subst e; rw [ha.dj _ hm.mem] at hg; exact absurd hg (by simp)
    rw [hget_put, if_neg this]; exact ha.gg k c hg
  · rw [hget_put]
    by_cases e : p.1 = id
    · rw [if_pos e, hm.pw ha.nd p hp e]
    · rw [if_neg e]
      rcases hm.of p hp with rfl | h2
      · exact absurd rfl e
      · exact ha.ow p h2
  · rw [pw_ids, hm.ids, ← pw_ids]; exact ha.nd
  · rcases hm.of p hp with rfl | h2
    · exact ha.dj (id, b) hm.mem
    · exact ha.dj p h2
theorem Rm.ne {id : Nat} {b : Blk} (hm : Rm own id b own') (hp : own.Pairwise fun p q => p.1 ≠ q.1) : ∀ q ∈ own', q.1 ≠ id := by
  induction hm with
  | here => intro q hq e; exact (List.pairwise_cons.1 hp).1 q hq e.symm
  | there hm ih =>
    intro q hq e
    rcases List.mem_cons.1 hq with rfl | hq
    · exact (List.pairwise_cons.1 hp).1 _ hm.mem e
    · exact ih (List.pairwise_cons.1 hp).2 q hq e
theorem HA.kill (ha : HA G own h) {id : Nat} {b : Blk} (hm : Rm own id b own') : HA G own' (h.put id none) := by
  have hlt := ha.lt (ha.ow _ hm.mem)
  refine ⟨fun k hk => ?_, fun k c hg => ?_, fun p hp => ?_, ha.nd.sublist hm.sub, fun p hp => ha.dj p (hm.sub.subset hp)⟩
  · have hk' : h.nx ≤ k := hk
    rw [hget_put, if_neg (by have : id < h.nx := hlt; omega)]; exact ha.wf k hk'
  · have : k ≠ id := fun e => by subst e; rw [ha.dj _ hm.mem] at hg; exact absurd hg (by simp)
    rw [hget_put, if_neg this]; exact ha.gg k c hg
  · rw [hget_put, if_neg (hm.ne ha.nd p hp)]; exact ha.ow p (hm.sub.subset hp)
theorem HA.sub (ha : HA G own h) (hs : own'.Sublist own) : HA G own' h := ⟨ha.wf, ha.gg, fun p hp => ha.ow p (hs.subset hp), ha.nd.sublist hs, fun p hp => ha.dj p (hs.subset hp)⟩
theorem HA.drop (ha : HA G own h) {id : Nat} {b : Blk} (hm : Rm own id b own') : HA G own' h := ha.sub hm.sub
theorem gadd_sub {id : Nat} {b : Blk} (hg : G id = none) : Gsub G (gadd G id b) := fun k c hk => by
  unfold gadd
  rw [if_neg (fun e => by subst e; rw [hg] at hk; exact absurd hk (by simp))]
  exact hk
theorem gadd_get {id : Nat} {b : Blk} : gadd G id b id = some b := by unfold gadd; rw [if_pos rfl]
theorem HA.freeze (ha : HA G own h) {id : Nat} {b : Blk} (hm : Rm own id b own') : Gsub G (gadd G id b) ∧ HA (gadd G id b) own' h := by
  have hd : G id = none := ha.dj _ hm.mem
  refine ⟨gadd_sub hd, ha.wf, fun k c hg => ?_, fun p hp => ha.ow p (hm.sub.subset hp), ha.nd.sublist hm.sub, fun p hp => ?_⟩
  · unfold gadd at hg
    by_cases e : k = id
    · rw [if_pos e] at hg; subst e; injection hg with hg; subst hg; exact ha.ow _ hm.mem
    · rw [if_neg e] at hg; exact ha.gg k c hg
  · unfold gadd
    rw [if_neg (hm.ne ha.nd p hp)]
    exact ha.dj p (hm.sub.subset hp)
/-- All own blocks but the last ones are forgotten. -/
theorem HA.tail (ha : HA G (own' ++ own) h) : HA G own h := ha.sub (List.sublist_append_right _ _)
theorem HA.getOwn (ha : HA G own h) {id : Nat} {b : Blk} (hm : Mm own id b) : h.get id = some b := ha.ow _ hm.mem

theorem HA.load (ha : HA G own h) {id off : Nat} {b : Blk} (hm : Mm own id b) {n : Option Nat} {v : AV} (hv : loadB n off (some b) = some v) : loadG h.get n (.r (.v (.p id off))) = some v := by
  show loadB n off (h.get id) = _
  rw [ha.getOwn hm]; exact hv
/-! Slices that read as lists -/
def AV.sid : AV → Nat
  | .r (.v (.sl id _ _ _ _)) => id
  | _ => 0
def AV.soff : AV → Nat
  | .r (.v (.sl _ off _ _ _)) => off
  | _ => 0
/-- A slice of n elements of sz cells each: its cells. -/
def Rd (G : Gm) (s : AV) (sz n : Nat) (cells : List AS) : Prop :=
  cells.length = n * sz ∧ ((s = .r (.v .nsl) ∧ n = 0) ∨ ∃ id off cap, s = .r (.v (.sl id off n cap sz)) ∧ (0 < n → ∃ own cs, G id = some (.row own cs) ∧ seg cs off (n * sz) = some cells))
variable {s : AV} {sz n : Nat} {cells : List AS}
theorem Rd.mono (hs : Rd G s sz n cells) (hg : Gsub G G') : Rd G' s sz n cells := by
  obtain ⟨hl, h⟩ := hs
  refine ⟨hl, ?_⟩
  rcases h with h | ⟨id, off, cap, e, h⟩
  · exact .inl h
  · refine .inr ⟨id, off, cap, e, fun hn => ?_⟩
    obtain ⟨own, cs, h1, h2⟩ := h hn
    exact ⟨own, cs, hg _ _ h1, h2⟩
theorem Rd.len (hs : Rd G s sz n cells) : len1 false s = some (vi n) := by
  obtain ⟨hl, ⟨rfl, rfl⟩ | ⟨id, off, cap, rfl, h⟩⟩ := hs <;> rfl
theorem Rd.lenOf (hs : Rd G s sz n cells) : lenOf s = some n := by
  obtain ⟨hl, ⟨rfl, rfl⟩ | ⟨id, off, cap, rfl, h⟩⟩ := hs <;> rfl
theorem Rd.ia (hs : Rd G s sz n cells) {j : Nat} (hj : j < n) : iaS1 sz s (some j) = some (.r (.v (.p s.sid (s.soff + j * sz)))) := by
  obtain ⟨hl, ⟨rfl, rfl⟩ | ⟨id, off, cap, rfl, h⟩⟩ := hs
  · omega
  · show cond (Nat.blt j n) (cond (Nat.beq sz sz) _ none) none = _
    rw [show Nat.blt j n = true by rw [Nat.blt_eq]; exact hj, show Nat.beq sz sz = true by rw [natBeq]; simp]
    rfl
theorem Rd.blk (hs : Rd G s sz n cells) (hn : 0 < n) : ∃ own cs, G s.sid = some (.row own cs) ∧ seg cs s.soff (n * sz) = some cells := by
  obtain ⟨hl, ⟨rfl, rfl⟩ | ⟨id, off, cap, rfl, h⟩⟩ := hs
  · omega
  · exact h hn
theorem Rd.cell (hs : Rd G s sz n cells) (ha : HA G own h) {o k : Nat} {a : AS} (hk : cells[k]? = some a) (ho : o = s.soff + k) : loadG h.get none (.r (.v (.p s.sid o))) = some (.r (.v a)) := by
  have hlt : k < cells.length := (List.getElem?_eq_some_iff.1 hk).1
  have hl := hs.1
  obtain ⟨own, cs, h1, h2⟩ := hs.blk (by rcases Nat.eq_zero_or_pos n with e | e; rw [e] at hl; omega; exact e)
  obtain ⟨h3, h4⟩ := seg_some h2
  show loadB none o (h.get s.sid) = _
  rw [ha.gg _ _ h1]
  show (getAt cs o).map _ = _
  rw [getAt_eq, ho, ← h4 k (by omega), hk]
  rfl
theorem Rd.part (hs : Rd G s sz n cells) (ha : HA G own h) {o k m : Nat} (hm : k + m ≤ n * sz) (hn : 0 < n) (ho : o = s.soff + k) : loadG h.get (some m) (.r (.v (.p s.sid o))) = some (.r (.g ((cells.drop k).take m))) := by
  have hl := hs.1
  obtain ⟨own, cs, h1, h2⟩ := hs.blk hn
  show loadB (some m) o (h.get s.sid) = _
  rw [ha.gg _ _ h1]
  show (seg cs o m).map _ = _
  rw [seg_eq] at h2 ⊢
  split at h2
  · rename_i hle
    injection h2 with h2
    rw [if_pos (by omega), ← h2, ho]
    simp only [Option.map_some, Option.some.injEq, AV.r.injEq, AR.g.injEq]
    rw [List.drop_take, List.take_take, List.drop_drop, Nat.min_eq_left (by omega)]
  · exact absurd h2 (by simp)
end
end Go.Proofs.Ytaijmekhfleciaa.Am
