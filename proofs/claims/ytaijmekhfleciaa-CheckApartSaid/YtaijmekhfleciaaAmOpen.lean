/- What comes in: arguments that can be read as data, as the small machine's values: their leaves, slices as rows that are only read. -/
import Derived.Test.YtaijmekhfleciaaAmTy
import Derived.WalkKit
import Derived.ProofKit
import Derived.OpenShut
import Derived.Below
set_option linter.unusedVariables false
set_option linter.unusedSimpArgs false
namespace Go.Proofs.Ytaijmekhfleciaa.Am
open Go
/-- A type's leaves, one a cell; none: it doesn't lie so. -/
def leavesF (P : Program) (rec : TypeId → Option (List TypeId)) : Nat → List Field → Option (List TypeId)
  | _, [] => some []
  | off, f :: l =>
    match rec f.type with
    | some ts => if f.offset = off ∧ ts.length = P.cellsOf f.type then (leavesF P rec (off + ts.length) l).map (ts ++ ·) else none
    | none => none
def leaves (P : Program) : Nat → TypeId → Option (List TypeId)
  | 0, _ => none
  | d + 1, t =>
    match P.underlying t with
    | some (.struct fs) => leavesF P (leaves P d) 0 fs.toList
    | some (.array n e) => match leaves P d e with
      | some ts => if ts.length = P.cellsOf e then some (List.replicate n ts).flatten else none
      | none => none
    | some _ => some [t]
    | none => none
section
variable {H : Type} {enc : TypeId × Value → H} {P : Program} {w : World} {base : Nat} {spare : Nat → Bool} {held : Bool}
theorem mapM_get {α β : Type} {f : α → Option β} : ∀ {l : List α} {r : List β}, l.mapM f = some r → ∀ x ∈ l, ∃ y, f x = some y
  | [], _, _, x, hx => by cases hx
  | a :: l, r, h, x, hx => by
    rw [List.mapM_cons] at h
    cases ha : f a with
    | none => rw [ha] at h; exact absurd h (by simp)
    | some y =>
      rw [ha] at h
      cases hl : l.mapM f with
      | none => rw [hl] at h; exact absurd h (by simp)
      | some ys =>
        rcases List.mem_cons.1 hx with rfl | hx
        · exact ⟨y, ha⟩
        · exact mapM_get hl x hx
/-- A leaf's cell reads. -/
def LeafOk (enc : TypeId × Value → H) (P : Program) (w : World) (base : Nat) (spare : Nat → Bool) (held : Bool) (ts : List TypeId) (cs : List Value) : Prop :=
  ∀ (i : Nat) (u : TypeId) (v : Value), ts[i]? = some u → cs[i]? = some v → ∃ fuel d ps, DataW.trod enc P w base spare held fuel u [v] = some (d, ps)
theorem LeafOk.app {ts us : List TypeId} {cs : List Value} (h1 : LeafOk enc P w base spare held ts (cs.take ts.length)) (h2 : LeafOk enc P w base spare held us (cs.drop ts.length)) : LeafOk enc P w base spare held (ts ++ us) cs := by
  intro i u v hu hv
  by_cases hi : i < ts.length
  · rw [List.getElem?_append_left hi] at hu
    exact h1 i u v hu (by rw [List.getElem?_take, if_pos hi]; exact hv)
  · rw [List.getElem?_append_right (by omega)] at hu
    exact h2 (i - ts.length) u v hu (by rw [List.getElem?_drop, show ts.length + (i - ts.length) = i by omega]; exact hv)
theorem leavesF_open {rec : TypeId → Option (List TypeId)} {fuel : Nat} (hr : ∀ t ts, rec t = some ts → ∀ cs d ps, DataW.trod enc P w base spare held fuel t cs = some (d, ps) → LeafOk enc P w base spare held ts cs) {cs : List Value} :
    ∀ (l : List Field) (off : Nat) (ts : List TypeId), leavesF P rec off l = some ts → (∀ f ∈ l, ∃ y, DataW.trod enc P w base spare held fuel f.type ((cs.drop f.offset).take (P.cellsOf f.type)) = some y) →
      LeafOk enc P w base spare held ts (cs.drop off)
  | [], off, ts, h, _ => by
    injection h with h
    subst h
    intro i u v hu
    simp at hu
  | f :: l, off, ts, h, hm => by
    simp only [leavesF] at h
    split at h
    · rename_i t1 h1
      split at h
      · rename_i hc
        obtain ⟨t2, h2, rfl⟩ := map_some_inj h
        refine LeafOk.app ?_ ?_
        · obtain ⟨⟨d, ps⟩, hy⟩ := hm f List.mem_cons_self
          rw [hc.1, ← hc.2] at hy
          exact hr _ _ h1 _ d ps hy
        · rw [List.drop_drop]
          exact leavesF_open hr l (off + t1.length) t2 h2 (fun g hg => hm g (List.mem_cons_of_mem _ hg))
      · exact absurd h (by simp)
    · exact absurd h (by simp)
theorem rep_open {ts : List TypeId} {cs : List Value} : ∀ (n k : Nat), (∀ i, i < n → LeafOk enc P w base spare held ts ((cs.drop ((k + i) * ts.length)).take ts.length)) → LeafOk enc P w base spare held (List.replicate n ts).flatten (cs.drop (k * ts.length))
  | 0, k, _ => by intro i u v hu; simp at hu
  | n + 1, k, h => by
    rw [List.replicate_succ, List.flatten_cons]
    refine LeafOk.app (h 0 (by omega)) ?_
    have e : k * ts.length + ts.length = (k + 1) * ts.length := by rw [Nat.add_mul]; omega
    rw [List.drop_drop, e]
    exact rep_open n (k + 1) (fun i hi => by have := h (i + 1) (by omega); rwa [show k + (i + 1) = k + 1 + i by omega] at this)
theorem trod_one {fuel : Nat} {t : TypeId} {cs : List Value} {d : DataW H} {ps : List MemPlace} (h : DataW.trod enc P w base spare held fuel t cs = some (d, ps)) (hs : ∀ fs, P.underlying t ≠ some (.struct fs)) (ha : ∀ n e, P.underlying t ≠ some (.array n e)) : ∃ v, cs = [v] := by
  cases fuel with
  | zero => exact absurd h (by simp [DataW.trod])
  | succ fuel =>
    unfold DataW.trod at h
    split at h
    all_goals first
      | exact ⟨_, rfl⟩
      | (rename_i he; exact absurd he (hs _))
      | (rename_i he; exact absurd he (ha _ _))
      | exact absurd h (by simp)
theorem leaves_open : ∀ (m : Nat) (t : TypeId) (ts : List TypeId), leaves P m t = some ts → ∀ (fuel : Nat) (cs : List Value) (d : DataW H) (ps : List MemPlace), DataW.trod enc P w base spare held fuel t cs = some (d, ps) → LeafOk enc P w base spare held ts cs
  | 0, _, _, h, _, _, _, _, _ => by cases h
  | m + 1, t, ts, h, fuel, cs, d, ps, hd => by
    cases fuel with
    | zero => exact absurd hd (by simp [DataW.trod])
    | succ fuel =>
      unfold leaves at h
      split at h
      · rename_i fs hu
        unfold DataW.trod at hd
        rw [hu] at hd
        simp only at hd
        split at hd
        · obtain ⟨r, hr, _⟩ := map_some_inj hd
          have := leavesF_open (cs := cs) (fun t ts ht cs d ps hd => leaves_open m t ts ht fuel cs d ps hd) fs.toList 0 ts h (fun f hf => mapM_get hr f hf)
          simpa using this
        · exact absurd hd (by simp)
      · rename_i n e hu
        split at h
        · rename_i t1 h1
          split at h
          · rename_i hc
            injection h with h
            subst h
            unfold DataW.trod at hd
            rw [hu] at hd
            simp only at hd
            split at hd
            · obtain ⟨r, hr, _⟩ := map_some_inj hd
              have := rep_open (enc := enc) (P := P) (w := w) (base := base) (spare := spare) (held := held) (ts := t1) (cs := cs) n 0 (fun i hi => by
                obtain ⟨⟨d, ps⟩, hy⟩ := mapM_get hr i (List.mem_range.2 hi)
                rw [Nat.zero_add, hc]
                exact leaves_open m e t1 h1 fuel _ d ps hy)
              simpa using this
            · exact absurd hd (by simp)
          · exact absurd h (by simp)
        · exact absurd h (by simp)
      · rename_i td hs ha hu
        injection h with h
        subst h
        obtain ⟨v, rfl⟩ := trod_one hd (fun fs e => hs fs (Option.some.inj (hu.symm.trans e))) (fun n e he => ha n e (Option.some.inj (hu.symm.trans he)))
        intro i u x hu hx
        cases i with
        | zero => simp at hu hx; subst hu hx; exact ⟨_, _, _, hd⟩
        | succ i => simp at hu
      · exact absurd h (by simp)
/-- Kinds of flat leaves: whole numbers, bools. -/
inductive KT where
  | i (k : IntKind)
  | b
def leafK (P : Program) (u : TypeId) : Option KT :=
  match P.underlying u with
  | some (.int k) => some (.i k)
  | some .bool => some .b
  | _ => none
def KOk : KT → AS → Prop
  | .i k, a => ∃ n, a = .i k n ∧ k.min ≤ n ∧ n ≤ k.max
  | .b, a => ∃ b, a = .b b
theorem leafK_open {u : TypeId} {k : KT} {v : Value} {fuel : Nat} {d : DataW H} {ps : List MemPlace} (hk : leafK P u = some k) (h : DataW.trod enc P w base spare held fuel u [v] = some (d, ps)) : ∃ a, KOk k a ∧ ∀ ρ, RS ρ a v := by
  unfold leafK at hk
  split at hk
  · rename_i q hu
    injection hk with hk; subst hk
    obtain ⟨n, hc, _, hw⟩ := DataW.trod_int hu h
    injection hc with hc
    subst hc
    exact ⟨.i q n, ⟨n, rfl, by simpa [Lit.wf] using hw⟩, fun ρ => rfl⟩
  · rename_i hu
    injection hk with hk; subst hk
    obtain ⟨b, hc, _⟩ := DataW.trod_bool hu h
    injection hc with hc
    subst hc
    exact ⟨.b b, ⟨b, rfl⟩, fun ρ => rfl⟩
  · exact absurd hk (by simp)
/-- A slice's leaf: nil, or so many elements that read. -/
theorem slice_open {u e : TypeId} {v : Value} {fuel : Nat} {d : DataW H} {ps : List MemPlace} (hu : P.underlying u = some (.slice e)) (h : DataW.trod enc P w base spare held fuel u [v] = some (d, ps)) :
    v = .slice none 0 0 ∨ ∃ a len cap, v = .slice (some a) len cap ∧ len ≤ cap ∧ cap ≤ maxLen ∧ ∀ i, i < len → ∃ ch fuel d ps, w.cells? base (a.add (i * P.cellsOf e)) (P.cellsOf e) = some ch ∧ DataW.trod enc P w base spare held fuel e ch = some (d, ps) := by
  rcases DataW.trod_slice hu h with ⟨hc, _⟩ | ⟨a, len, cap, elems, rest, n, _, hc, _, _, h1, h2, h3, h4, _⟩
  · injection hc with hc; exact .inl hc
  · injection hc with hc
    refine .inr ⟨a, len, cap, hc, h1, h2, fun i hi => ?_⟩
    have h5 := h4 i hi
    have hi' : i < elems.length := by omega
    rw [List.getElem?_eq_getElem hi'] at h5
    cases hch : w.cells? base (a.add (i * P.cellsOf e)) (P.cellsOf e) with
    | none => rw [hch] at h5; exact absurd h5 (by simp)
    | some ch =>
      rw [hch] at h5
      exact ⟨ch, n, _, _, rfl, h5⟩
theorem cells_get {a : Addr} {n : Nat} {ch : List Value} (h : w.cells? base a n = some ch) : ch.length = n ∧ ∀ j, j < n → ∃ v, ch[j]? = some v ∧ w.cell? (a.add j) = some v := by
  unfold World.cells? at h
  split at h
  · have hl : ch.length = n := by
      have := mapM_some_length h
      simpa using this
    refine ⟨hl, fun j hj => ?_⟩
    have := mapM_some_get h j j (by simp [hj])
    have hj' : j < ch.length := by omega
    exact ⟨ch[j], by simp [hj'], by rw [this]; simp [hj']⟩
  · exact absurd h (by simp)
theorem cell_block {a : Addr} {v : Value} (h : w.cell? a = some v) : ∃ c ty fr, w.heap[a.block]? = some (.cells c ty fr) ∧ a.spot = none ∧ c[a.off]? = some v := by
  unfold World.cell? at h
  split at h
  · rename_i c ty fr hc
    split at h
    · exact absurd h (by simp)
    · rename_i hs
      exact ⟨c, ty, fr, hc, by simpa using hs, h⟩
  · exact absurd h (by simp)
theorem add_block (a : Addr) (n : Nat) : (a.add n).block = a.block := by unfold Addr.add; split <;> rfl
theorem add_off (a : Addr) (n : Nat) : (a.add n).off = a.off + n := by unfold Addr.add; split <;> simp_all
theorem choose_list {α : Type} {p : Nat → α → Prop} : ∀ (n : Nat), (∀ j, j < n → ∃ x, p j x) → ∃ l : List α, l.length = n ∧ ∀ j, j < n → ∃ x, l[j]? = some x ∧ p j x
  | 0, _ => ⟨[], rfl, fun j hj => by omega⟩
  | n + 1, h => by
    obtain ⟨l, hl, hp⟩ := choose_list n (fun j hj => h j (by omega))
    obtain ⟨x, hx⟩ := h n (by omega)
    refine ⟨l ++ [x], by simp [hl], fun j hj => ?_⟩
    by_cases e : j < n
    · obtain ⟨y, h1, h2⟩ := hp j e
      exact ⟨y, by rw [List.getElem?_append_left (by omega)]; exact h1, h2⟩
    · obtain rfl : j = n := by omega
      exact ⟨x, by rw [List.getElem?_append_right (by omega)]; simp [hl], hx⟩
/-- A leaf as data: a number, a bool, a slice of flat elements. -/
inductive Lf where
  | k (k : KT)
  | s (ks : List KT)
def leafS (P : Program) (m : Nat) (u : TypeId) : Option Lf :=
  match leafK P u with
  | some k => some (.k k)
  | none => match P.underlying u with
    | some (.slice e) => match leaves P m e with
      | some ts => match ts.mapM (leafK P) with
        | some ks => if ks.length = P.cellsOf e ∧ 0 < ks.length then some (.s ks) else none
        | none => none
      | none => none
    | _ => none
def LfOk (G : Gm) : Lf → AS → Prop
  | .k k, a => KOk k a
  | .s ks, a => ∃ n cells, Rd G (.r (.v a)) ks.length n cells ∧ n ≤ maxLen ∧ ∀ i, i < n → ∀ j k, ks[j]? = some k → ∃ x, cells[i * ks.length + j]? = some x ∧ KOk k x
theorem LfOk.mono {G G' : Gm} (hg : Gsub G G') : ∀ {l : Lf} {a : AS}, LfOk G l a → LfOk G' l a
  | .k k, a, h => h
  | .s ks, a, ⟨n, cells, h1, h2, h3⟩ => ⟨n, cells, h1.mono hg, h2, h3⟩
/-- Memory that came in: rows that are only read. -/
structure In (w : World) (h : HS) (ρ : Rho) : Prop where
  rb : RB h.get ρ w
  wf : h.wf
  ro : ∀ id b, h.get id = some b → b.own = false
  fr : ∀ id, h.nx ≤ id → ρ id = none
theorem In.nil (w : World) : In w ⟨.nil, 0⟩ (fun _ => none) := by
  refine ⟨⟨fun id b h => ?_, fun id id' b b' x x' h => ?_⟩, fun id _ => rfl, fun id b h => ?_, fun _ _ => rfl⟩ <;> cases h
theorem In.leaf {h : HS} {ρ : Rho} (hi : In w h ρ) {m : Nat} {u : TypeId} {lf : Lf} {v : Value} {fuel : Nat} {d : DataW H} {ps : List MemPlace} (hl : leafS P m u = some lf) (ht : DataW.trod enc P w base spare held fuel u [v] = some (d, ps))
    (hs : ∀ a len cap, v = .slice (some a) len cap → a.spot = none) : ∃ h' ρ' a, In w h' ρ' ∧ Ext ρ ρ' ∧ Gsub h.get h'.get ∧ RS ρ' a v ∧ LfOk h'.get lf a := by
  unfold leafS at hl
  split at hl
  · rename_i k hk
    injection hl with hl; subst hl
    obtain ⟨a, h1, h2⟩ := leafK_open hk ht
    exact ⟨h, ρ, a, hi, Ext.refl _, Gsub.refl _, h2 ρ, h1⟩
  · split at hl
    · rename_i e hu
      split at hl
      · rename_i ts hts
        split at hl
        · rename_i ks hks
          split at hl
          · rename_i hc
            injection hl with hl; subst hl
            rcases slice_open hu ht with rfl | ⟨a, len, cap, rfl, h1, h2, h3⟩
            · exact ⟨h, ρ, .nsl, hi, Ext.refl _, Gsub.refl _, rfl, 0, [], ⟨by simp, .inl ⟨rfl, rfl⟩⟩, Nat.zero_le _, fun i hi => by omega⟩
            · have hsp := hs a len cap rfl
              have hkl : ks.length = ts.length := mapM_some_length hks
              -- each cell
              have hcell : ∀ p, p < len * ks.length → ∃ x : AS, ∃ v, w.cell? (a.add p) = some v ∧ (∀ ρ, RS ρ x v) ∧ ∀ k, ks[p % ks.length]? = some k → KOk k x := by
                intro p hp
                have hj : p % ks.length < ks.length := Nat.mod_lt _ hc.2
                have hq : p / ks.length < len := Nat.div_lt_of_lt_mul (by rw [Nat.mul_comm]; exact hp)
                obtain ⟨ch, fu, d', ps', hch, htr⟩ := h3 (p / ks.length) hq
                rw [← hc.1] at hch
                obtain ⟨hlen, hget⟩ := cells_get hch
                obtain ⟨v, hv1, hv2⟩ := hget (p % ks.length) hj
                have hkj : ks[p % ks.length]? = some ks[p % ks.length] := by simp [hj]
                have htj : p % ks.length < ts.length := by omega
                have hmap := mapM_some_get hks (p % ks.length) ts[p % ks.length] (by simp [htj])
                rw [hkj] at hmap
                obtain ⟨fu', d'', ps'', hle⟩ := leaves_open m e ts hts _ ch _ _ htr (p % ks.length) ts[p % ks.length] v (by simp [htj]) hv1
                obtain ⟨x, hx1, hx2⟩ := leafK_open hmap hle
                refine ⟨x, v, ?_, hx2, fun k hk => ?_⟩
                · rw [← hv2]
                  congr 1
                  rw [Addr.add_add, Nat.mul_comm, Nat.div_add_mod]
                · rw [hkj] at hk; injection hk with hk; subst hk; exact hx1
              obtain ⟨as, hal, has⟩ := choose_list _ hcell
              have hkok : ∀ i, i < len → ∀ j k, ks[j]? = some k → ∃ x, as[i * ks.length + j]? = some x ∧ KOk k x := by
                intro i hil j k hk
                have hj : j < ks.length := (List.getElem?_eq_some_iff.1 hk).1
                have hp : i * ks.length + j < len * ks.length := by
                  calc i * ks.length + j < i * ks.length + ks.length := by omega
                    _ = (i + 1) * ks.length := by rw [Nat.add_mul]; omega
                    _ ≤ len * ks.length := Nat.mul_le_mul_right _ hil
                obtain ⟨x, h4, v, _, _, h6⟩ := has _ hp
                refine ⟨x, h4, h6 k ?_⟩
                rw [Nat.mul_comm, Nat.mul_add_mod, Nat.mod_eq_of_lt hj]; exact hk
              have hn : ρ h.nx = none := hi.fr _ (Nat.le_refl _)
              have hg0 : h.get h.nx = none := hi.wf _ (Nat.le_refl _)
              by_cases h0 : len = 0
              · subst h0
                have hext : Ext ρ (fun k => if k = h.nx then some (a.block, a.off, 0) else ρ k) := by
                  intro id x hx
                  show (if id = h.nx then _ else ρ id) = _
                  rw [if_neg (fun e => by subst e; rw [hn] at hx; exact absurd hx (by simp))]
                  exact hx
                have hg : ∀ k, (HS.get { h with nx := h.nx + 1 } k) = h.get k := fun _ => rfl
                refine ⟨{ h with nx := h.nx + 1 }, _, .sl h.nx 0 0 (some cap) ks.length, ⟨⟨fun id b hb => ?_, fun id id' b b' x x' hb ho => ?_⟩, fun id hid => hi.wf id (by have : h.nx + 1 ≤ id := hid; omega), hi.ro, fun id hid => ?_⟩, hext, Gsub.refl _, ?_, 0, [], ⟨by simp, .inr ⟨_, _, _, rfl, fun hh => absurd hh (by omega)⟩⟩, Nat.zero_le _, fun i hi => by omega⟩
                · obtain ⟨cb, bs, tt, e1, e2⟩ := hi.rb.blk id b hb
                  exact ⟨cb, bs, tt, hext _ _ e1, e2.mono hext⟩
                · rw [hi.ro id b hb] at ho; exact absurd ho (by simp)
                · have : h.nx + 1 ≤ id := hid
                  show (if id = h.nx then _ else ρ id) = none
                  rw [if_neg (by omega)]; exact hi.fr id (by omega)
                · refine ⟨a.block, a.off, 0, a.off, cap, by show (if h.nx = h.nx then _ else _) = _; rw [if_pos rfl], ?_, by omega, fun _ => rfl, fun k hk => by injection hk, fun hk => by cases hk⟩
                  obtain ⟨b, o, sp⟩ := a
                  simp only at hsp
                  subst hsp
                  rfl
              · -- the row
                obtain ⟨x0, hx0, v0, hv0, _, _⟩ := has (len * ks.length - 1) (by have : 0 < len * ks.length := Nat.mul_pos (by omega) hc.2; omega)
                obtain ⟨cs, ty, fr, hb1, hb2, hb3⟩ := cell_block hv0
                rw [add_block] at hb1
                rw [add_off] at hb3
                have hb1' : w.heap[a.block]? = some (.cells cs ty fr) := hb1
                have hpos : 0 < len * ks.length := Nat.mul_pos (by omega) hc.2
                have hsz : a.off + len * ks.length ≤ cs.size := by
                  have : a.off + (len * ks.length - 1) < cs.size := (Array.getElem?_eq_some_iff.1 hb3).1
                  omega
                have hext : Ext ρ (fun k => if k = h.nx then some (a.block, a.off, cs.size) else ρ k) := by
                  intro id x hx
                  show (if id = h.nx then _ else ρ id) = _
                  rw [if_neg (fun e => by subst e; rw [hn] at hx; exact absurd hx (by simp))]
                  exact hx
                have hsub : Gsub h.get (h.new (.row false as)).get := by
                  intro id b hb
                  rw [hget_new, if_neg (fun e => by subst e; rw [hg0] at hb; exact absurd hb (by simp))]
                  exact hb
                refine ⟨h.new (.row false as), _, .sl h.nx 0 len (some cap) ks.length, ⟨⟨fun id b hb => ?_, fun id id' b b' x x' hb ho => ?_⟩, fun id hid => ?_, fun id b hb => ?_, fun id hid => ?_⟩, hext, hsub, ?_, len, as, ⟨hal, .inr ⟨_, _, _, rfl, fun _ => ⟨false, as, ?_, ?_⟩⟩⟩, by omega, hkok⟩
                · rw [hget_new] at hb
                  by_cases e : id = h.nx
                  · rw [if_pos e] at hb
                    injection hb with hb
                    subst hb e
                    refine ⟨a.block, a.off, cs.size, by show (if h.nx = h.nx then _ else _) = _; rw [if_pos rfl], cs, ty, fr, hb1', rfl, by omega, fun j y hy => ?_, fun ho => absurd ho (by simp)⟩
                    have hj : j < as.length := (List.getElem?_eq_some_iff.1 hy).1
                    obtain ⟨x, h4, v, h5, h6, _⟩ := has j (by omega)
                    rw [hy] at h4; injection h4 with h4; subst h4
                    obtain ⟨c2, t2, f2, g1, g2, g3⟩ := cell_block h5
                    rw [add_block] at g1
                    rw [add_off] at g3
                    have g1' : w.heap[a.block]? = some (.cells c2 t2 f2) := g1
                    rw [hb1'] at g1'
                    injection g1' with g1'; injection g1' with e1 _ _
                    subst e1
                    exact ⟨v, g3, h6 _⟩
                  · rw [if_neg e] at hb
                    obtain ⟨cb, bs, tt, e1, e2⟩ := hi.rb.blk id b hb
                    exact ⟨cb, bs, tt, hext _ _ e1, e2.mono hext⟩
                · rw [hget_new] at hb
                  by_cases e : id = h.nx
                  · rw [if_pos e] at hb; injection hb with hb; subst hb; exact absurd ho (by simp [Blk.own])
                  · rw [if_neg e] at hb; rw [hi.ro id b hb] at ho; exact absurd ho (by simp)
                · have : h.nx + 1 ≤ id := hid
                  rw [hget_new, if_neg (by omega)]; exact hi.wf id (by omega)
                · rw [hget_new] at hb
                  by_cases e : id = h.nx
                  · rw [if_pos e] at hb; injection hb with hb; subst hb; rfl
                  · rw [if_neg e] at hb; exact hi.ro id b hb
                · have : h.nx + 1 ≤ id := hid
                  show (if id = h.nx then _ else ρ id) = none
                  rw [if_neg (by omega)]; exact hi.fr id (by omega)
                · refine ⟨a.block, a.off, cs.size, a.off, cap, by show (if h.nx = h.nx then _ else _) = _; rw [if_pos rfl], ?_, h1, fun _ => rfl, fun k hk => by injection hk, fun hk => by cases hk⟩
                  obtain ⟨b, o, sp⟩ := a
                  simp only at hsp
                  subst hsp
                  rfl
                · rw [hget_new, if_pos rfl]
                · rw [seg_eq, if_pos (by omega), List.drop_zero, List.take_of_length_le (by omega)]
          · exact absurd hl (by simp)
        · exact absurd hl (by simp)
      · exact absurd hl (by simp)
    · exact absurd hl (by simp)
def CellsOk (G : Gm) : List Lf → List AS → Prop
  | [], [] => True
  | l :: ls, a :: as => LfOk G l a ∧ CellsOk G ls as
  | _, _ => False
theorem CellsOk.mono {G G' : Gm} (hg : Gsub G G') : ∀ {ls : List Lf} {as : List AS}, CellsOk G ls as → CellsOk G' ls as
  | [], [], h => h
  | l :: ls, a :: as, ⟨h1, h2⟩ => ⟨h1.mono hg, CellsOk.mono hg h2⟩
  | [], _ :: _, h => h.elim
  | _ :: _, [], h => h.elim
/-- No address into a part of a cell. -/
def NoSpot (v : Value) : Prop := ∀ a len cap, v = .slice (some a) len cap → a.spot = none
theorem In.cells {m : Nat} : ∀ {us : List TypeId} {ls : List Lf} {cs : List Value} {h : HS} {ρ : Rho}, In w h ρ → us.mapM (leafS P m) = some ls → cs.length = us.length → LeafOk enc P w base spare held us cs → (∀ v ∈ cs, NoSpot v) →
    ∃ h' ρ' as, In w h' ρ' ∧ Ext ρ ρ' ∧ Gsub h.get h'.get ∧ RL ρ' as cs ∧ CellsOk h'.get ls as
  | [], ls, [], h, ρ, hi, hm, _, _, _ => by
    have : ls = [] := by simpa using hm.symm
    subst this
    exact ⟨h, ρ, [], hi, Ext.refl _, Gsub.refl _, trivial, trivial⟩
  | u :: us, ls, v :: cs, h, ρ, hi, hm, hl, hlf, hs => by
    rw [List.mapM_cons] at hm
    cases hu : leafS P m u with
    | none => rw [hu] at hm; exact absurd hm (by simp)
    | some l =>
      rw [hu] at hm
      cases hus : us.mapM (leafS P m) with
      | none => rw [hus] at hm; exact absurd hm (by simp)
      | some ls' =>
        rw [hus] at hm
        have e : ls = l :: ls' := by simpa using hm.symm
        subst e
        obtain ⟨fu, d, ps, ht⟩ := hlf 0 u v rfl rfl
        obtain ⟨h1, ρ1, a, hi1, he1, hg1, hr1, hk1⟩ := hi.leaf hu ht (hs v List.mem_cons_self)
        obtain ⟨h2, ρ2, as, hi2, he2, hg2, hr2, hk2⟩ := In.cells hi1 hus (by simpa using hl) (fun i u v hu hv => hlf (i + 1) u v hu hv) (fun v hv => hs v (List.mem_cons_of_mem _ hv))
        exact ⟨h2, ρ2, a :: as, hi2, he1.trans he2, hg1.trans hg2, ⟨hr1.mono he2, hr2⟩, hk1.mono hg2, hk2⟩
  | [], _, _ :: _, _, _, _, _, hl, _, _ => by simp at hl
  | _ :: _, _, [], _, _, _, _, hl, _, _ => by simp at hl
def isAgg (P : Program) (t : TypeId) : Bool :=
  match P.underlying t with
  | some (.struct _) | some (.array _ _) => true
  | _ => false
def argL (P : Program) (m : Nat) (t : TypeId) : Option (Bool × List Lf) :=
  match leaves P m t with
  | some us => match us.mapM (leafS P m) with
    | some ls => if us.length = P.cellsOf t then some (isAgg P t, ls) else none
    | none => none
  | none => none
def ArgOk (G : Gm) : Bool × List Lf → AV → Prop
  | (true, ls), x => ∃ as, x = .r (.g as) ∧ CellsOk G ls as
  | (false, [l]), x => ∃ a, x = .r (.v a) ∧ LfOk G l a
  | (false, _), _ => False
theorem ArgOk.mono {G G' : Gm} (hg : Gsub G G') : ∀ {p : Bool × List Lf} {x : AV}, ArgOk G p x → ArgOk G' p x
  | (true, ls), x, ⟨as, h1, h2⟩ => ⟨as, h1, h2.mono hg⟩
  | (false, [l]), x, ⟨a, h1, h2⟩ => ⟨a, h1, h2.mono hg⟩
  | (false, []), _, h => h.elim
  | (false, _ :: _ :: _), _, h => h.elim
def ArgsOk (G : Gm) : List (Bool × List Lf) → List AV → Prop
  | [], [] => True
  | p :: ps, x :: xs => ArgOk G p x ∧ ArgsOk G ps xs
  | _, _ => False
theorem cell_spot {r : Reach} {b0 : Nat} {u : TypeId} {v : Value} (h : Cell.okWide P w r b0 u v) : NoSpot v := by
  intro a len cap e
  subst e
  unfold Cell.okWide Cell.ok at h
  cases hu : P.underlying u with
  | none => simp [hu] at h
  | some td =>
    cases td <;> simp [hu] at h
    exact h.2.2.2.1
theorem cell_agg {r : Reach} {b0 : Nat} {u : TypeId} {cs : Array Value} (h : Cell.okWide P w r b0 u (.agg cs)) : False := by
  unfold Cell.okWide Cell.ok at h
  cases hu : P.underlying u with
  | none => simp [hu] at h
  | some td => cases td <;> simp [hu] at h
theorem In.arg {h : HS} {ρ : Rho} (hi : In w h ρ) {m : Nat} {t : TypeId} {p : Bool × List Lf} {v : Value} {d : DataW H} {ps : List MemPlace} {r : Reach} {b0 : Nat} (hp : argL P m t = some p) (ht : DataW.Trod enc P w base spare held t v d ps)
    (hok : Value.okWide P w r b0 t v) : ∃ h' ρ' x, In w h' ρ' ∧ Ext ρ ρ' ∧ Gsub h.get h'.get ∧ RV ρ' x v ∧ ArgOk h'.get p x := by
  obtain ⟨fuel, hf⟩ := ht
  unfold argL at hp
  split at hp
  · rename_i us hus
    split at hp
    · rename_i ls hls
      split at hp
      · rename_i hlen
        injection hp with hp; subst hp
        have hlf := leaves_open m t us hus fuel _ d ps hf
        unfold Value.okWide at hok
        split at hok
        · rename_i fs hu
          obtain ⟨cs, rfl, hsz, ts, _, _, hcell⟩ := hok
          obtain ⟨h', ρ', as, g1, g2, g3, g4, g5⟩ := hi.cells (cs := cs.toList) hls (by simp only [Array.length_toList]; omega) hlf (fun x hx => by
            obtain ⟨i, hi⟩ := List.getElem?_of_mem hx
            obtain ⟨u, _, hu⟩ := hcell i x (by simpa using hi)
            exact cell_spot hu)
          refine ⟨h', ρ', .r (.g as), g1, g2, g3, ⟨cs.toList, by simp, g4⟩, ?_⟩
          rw [show isAgg P t = true by unfold isAgg; rw [hu]]
          exact ⟨as, rfl, g5⟩
        · rename_i n e hu
          obtain ⟨cs, rfl, hsz, ts, _, _, hcell⟩ := hok
          obtain ⟨h', ρ', as, g1, g2, g3, g4, g5⟩ := hi.cells (cs := cs.toList) hls (by simp only [Array.length_toList]; omega) hlf (fun x hx => by
            obtain ⟨i, hi⟩ := List.getElem?_of_mem hx
            obtain ⟨u, _, hu⟩ := hcell i x (by simpa using hi)
            exact cell_spot hu)
          refine ⟨h', ρ', .r (.g as), g1, g2, g3, ⟨cs.toList, by simp, g4⟩, ?_⟩
          rw [show isAgg P t = true by unfold isAgg; rw [hu]]
          exact ⟨as, rfl, g5⟩
        · rename_i hs ha
          have hagg : isAgg P t = false := by
            unfold isAgg
            split
            · rename_i fs e; exact absurd e (hs _)
            · rename_i n e1 e; exact absurd e (ha _ _)
            · rfl
          rw [hagg]
          obtain ⟨v', hv'⟩ := trod_one hf (fun fs e => hs _ e) (fun n e he => ha _ _ he)
          have hvv : v = v' := by
            cases v with
            | agg cs =>
              exact (cell_agg hok).elim
            | _ => simpa [Value.cells] using hv'
          subst hvv
          rw [hv'] at hlf
          have hul : us = [t] := by
            cases m with
            | zero => cases hus
            | succ m =>
              unfold leaves at hus
              split at hus
              · rename_i fs e; exact absurd e (hs _)
              · rename_i n e1 e; exact absurd e (ha _ _)
              · injection hus with hus; exact hus.symm
              · cases hus
          subst hul
          rw [List.mapM_cons] at hls
          cases hl : leafS P m t with
          | none => rw [hl] at hls; exact absurd hls (by simp)
          | some l =>
            rw [hl] at hls
            have e : ls = [l] := by simpa using hls.symm
            subst e
            obtain ⟨fu, d', ps', htr⟩ := hlf 0 t v rfl rfl
            obtain ⟨h1, ρ1, a, g1, g2, g3, g4, g5⟩ := hi.leaf hl htr (cell_spot hok)
            exact ⟨h1, ρ1, .r (.v a), g1, g2, g3, g4, a, rfl, g5⟩
      · exact absurd hp (by simp)
    · exact absurd hp (by simp)
  · exact absurd hp (by simp)
theorem In.args {m : Nat} {r : Reach} {b0 : Nat} : ∀ {ts : List TypeId} {shs : List (Bool × List Lf)} {vs : List Value} {ds : List (DataW H)} {ps : List MemPlace} {h : HS} {ρ : Rho}, In w h ρ → ts.mapM (argL P m) = some shs → DataW.TrodAll enc P w base spare held ts vs ds ps →
    (∀ (j : Nat) t v, ts[j]? = some t → vs[j]? = some v → Value.okWide P w r b0 t v) → ∃ h' ρ' xs, In w h' ρ' ∧ Ext ρ ρ' ∧ Gsub h.get h'.get ∧ RVs ρ' xs vs ∧ ArgsOk h'.get shs xs
  | [], shs, vs, ds, ps, h, ρ, hi, hm, ht, _ => by
    obtain ⟨rfl, rfl, rfl⟩ := ChangeShapes.trodAll_nil ht
    have : shs = [] := by simpa using hm.symm
    subst this
    exact ⟨h, ρ, [], hi, Ext.refl _, Gsub.refl _, trivial, trivial⟩
  | t :: ts, shs, vs, ds, ps, h, ρ, hi, hm, ht, hok => by
    obtain ⟨v, vs', d, ds', p, q, rfl, rfl, rfl, h1, h2⟩ := ChangeShapes.trodAll_cons ht
    rw [List.mapM_cons] at hm
    cases hu : argL P m t with
    | none => rw [hu] at hm; exact absurd hm (by simp)
    | some l =>
      rw [hu] at hm
      cases hus : ts.mapM (argL P m) with
      | none => rw [hus] at hm; exact absurd hm (by simp)
      | some ls' =>
        rw [hus] at hm
        have e : shs = l :: ls' := by simpa using hm.symm
        subst e
        obtain ⟨h1', ρ1, x, hi1, he1, hg1, hr1, hk1⟩ := hi.arg hu h1 (hok 0 t v rfl rfl)
        obtain ⟨h2', ρ2, xs, hi2, he2, hg2, hr2, hk2⟩ := In.args hi1 hus h2 (fun j t v ht hv => hok (j + 1) t v ht hv)
        exact ⟨h2', ρ2, x :: xs, hi2, he1.trans he2, hg1.trans hg2, ⟨hr1.mono he2, hr2⟩, hk1.mono hg2, hk2⟩
theorem In.ha {h : HS} {ρ : Rho} (hi : In w h ρ) : HA h.get [] h := ⟨hi.wf, fun _ _ x => x, fun p hp => by simp at hp, List.Pairwise.nil, fun p hp => by simp at hp⟩
theorem cells_cons {G : Gm} {l : Lf} {ls : List Lf} {as : List AS} (h : CellsOk G (l :: ls) as) : ∃ a as', as = a :: as' ∧ LfOk G l a ∧ CellsOk G ls as' := by
  cases as with
  | nil => exact h.elim
  | cons a as' => exact ⟨a, as', rfl, h.1, h.2⟩
theorem cells_nil {G : Gm} {as : List AS} (h : CellsOk G [] as) : as = [] := by
  cases as with
  | nil => rfl
  | cons a as' => exact h.elim
theorem args_cons {G : Gm} {l : Bool × List Lf} {ls : List (Bool × List Lf)} {xs : List AV} (h : ArgsOk G (l :: ls) xs) : ∃ a as', xs = a :: as' ∧ ArgOk G l a ∧ ArgsOk G ls as' := by
  cases xs with
  | nil => exact h.elim
  | cons a as' => exact ⟨a, as', rfl, h.1, h.2⟩
theorem args_nil {G : Gm} {xs : List AV} (h : ArgsOk G [] xs) : xs = [] := by
  cases xs with
  | nil => rfl
  | cons a as' => exact h.elim
end
end Go.Proofs.Ytaijmekhfleciaa.Am
