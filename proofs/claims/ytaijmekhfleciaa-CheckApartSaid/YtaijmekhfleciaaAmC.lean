/- Writing into blocks, and the operations that do: store, clear, copy. -/
import Derived.Test.YtaijmekhfleciaaAmN
import Derived.Laws.CopyRow
set_option linter.unusedVariables false
set_option linter.unusedSimpArgs false
namespace Go.Proofs.Ytaijmekhfleciaa.Am
open Go
theorem put_get (h : HS) (id : Nat) (x : Option Blk) : (h.put id x).get = updG h.get id x := by
  funext j
  show (h.t.set id x).get j = _
  rw [get_set]
  rfl
theorem new_get (h : HS) (b : Blk) : (h.new b).get = updG h.get h.nx (some b) := by
  funext j
  show (h.t.set h.nx (some b)).get j = _
  rw [get_set]
  rfl
section
variable {P : Program} {w : World} {ρ : Rho} {nt : Nat} {fr : Fr} {a : Act} {g : Nat → Option Blk} {h h' : HS}
variable {dst : Option Tmp} {type : TypeId} {pos : String} {after : Array Edge} {guard : Option (Nat × Bool)}
/-- An own block is written, nothing else. -/
theorem set_stp (hb : RB g ρ w) {id cb base tot : Nat} {b b' : Blk} {w' : World} (hg : g id = some b) (ho : b.own = true) (hr : ρ id = some (cb, base, tot)) (hsz : w'.heap.size = w.heap.size) (hos : w'.os = w.os) (ht : w'.tape = w.tape) (hout : w'.output = w.output)
    (hk : ∀ k, k ≠ cb → w'.heap[k]? = w.heap[k]?) (hb' : RBlk ρ w' cb base tot b') (ho' : b'.own = true) (n : Nat) : Stp g ρ w (updG g id (some b')) ρ w' n n := by
  refine ⟨Ext.refl _, fun _ _ => rfl, ⟨fun j c e => ?_, fun j j' c c' x x' e o e' r r' hne => ?_⟩, Nat.le_of_eq hsz.symm, hos, ht, hout, fun k hk1 hno => ?_, fun j c x e o r hx => ?_, fun j c e o => ?_⟩
  · unfold updG at e
    split at e
    · rename_i hj; subst hj; injection e with e; subst e; exact ⟨cb, base, tot, hr, hb'⟩
    · rename_i hj
      obtain ⟨cb2, base2, tot2, r2, h2⟩ := hb.blk j c e
      exact ⟨cb2, base2, tot2, r2, h2.of_heap (hk _ (fun e2 => hb.excl id j b c _ _ hg ho e hr r2 (Ne.symm hj) e2.symm))⟩
  · unfold updG at e e'
    split at e
    · rename_i hj
      subst hj
      rw [if_neg (Ne.symm hne)] at e'
      exact hb.excl j j' b c' x x' hg ho e' r r' hne
    · split at e'
      · rename_i hj'
        subst hj'
        exact hb.excl j j' c b x x' e o hg r r' hne
      · exact hb.excl j j' c c' x x' e o e' r r' hne
  · exact hk k fun e => hno id b _ hg ho hr e.symm
  · unfold updG at e
    split at e
    · rename_i hj; subst hj; exact ⟨j, b, x, hg, ho, r, rfl⟩
    · exact ⟨j, c, x, e, o, r, rfl⟩
  · unfold updG at e
    split at e
    · injection e with e; subst e
      rw [ho'] at o; exact absurd o (by simp)
    · exact e
/-- A block is given up. -/
theorem sub_stp (hb : RB g ρ w) (id n : Nat) : Stp g ρ w (updG g id none) ρ w n n := by
  have hs : ∀ j c, updG g id none j = some c → g j = some c := by
    intro j c e
    unfold updG at e
    split at e
    · exact absurd e (by simp)
    · exact e
  exact ⟨Ext.refl _, fun _ _ => rfl, hb.sub hs, Nat.le_refl _, rfl, rfl, rfl, fun _ _ _ => rfl, fun j c x e o r _ => ⟨j, c, x, hs _ _ e, o, r, rfl⟩, fun j c e _ => hs _ _ e⟩
/-- An own block goes on under a new number. -/
theorem ren_stp (hb : RB g ρ w) {id id' cb base base' tot : Nat} {b b' : Blk} {w' : World} (hg : g id = some b) (ho : b.own = true) (hr : ρ id = some (cb, base, tot)) (hid : ρ id' = none) (hsz : w'.heap.size = w.heap.size) (hos : w'.os = w.os) (ht : w'.tape = w.tape) (hout : w'.output = w.output)
    (hk : ∀ k, k ≠ cb → w'.heap[k]? = w.heap[k]?) (hb' : RBlk (updR ρ id' (cb, base', tot)) w' cb base' tot b') (ho' : b'.own = true) :
    Stp g ρ w (updG (updG g id none) id' (some b')) (updR ρ id' (cb, base', tot)) w' id' (id' + 1) := by
  have hext := updR_ext (x := (cb, base', tot)) hid
  have hcell : ∀ {j c}, updG (updG g id none) id' (some b') j = some c → j ≠ id' → j ≠ id ∧ g j = some c := by
    intro j c e hj
    unfold updG at e
    rw [if_neg hj] at e
    split at e
    · exact absurd e (by simp)
    · rename_i h1; exact ⟨h1, e⟩
  have hrho : ∀ {j}, j ≠ id' → updR ρ id' (cb, base', tot) j = ρ j := by
    intro j hj
    unfold updR
    rw [if_neg hj]
  refine ⟨hext, fun j hj => hrho (by omega), ⟨fun j c e => ?_, fun j j' c c' x x' e o e' r r' hne => ?_⟩, Nat.le_of_eq hsz.symm, hos, ht, hout, fun k hk1 hno => ?_, fun j c x e o r hx => ?_, fun j c e o => ?_⟩
  · by_cases hj : j = id'
    · subst hj
      have : some b' = some c := by simpa [updG] using e
      injection this with this; subst this
      exact ⟨_, _, _, updR_self, hb'⟩
    · obtain ⟨h1, h2⟩ := hcell e hj
      obtain ⟨cb2, base2, tot2, r2, h3⟩ := hb.blk j c h2
      exact ⟨cb2, base2, tot2, hext _ _ r2, (h3.mono hext).of_heap (hk _ (fun e2 => hb.excl id j b c _ _ hg ho h2 hr r2 (Ne.symm h1) e2.symm))⟩
  · by_cases hj : j = id'
    · subst hj
      have hj' : j' ≠ j := Ne.symm hne
      obtain ⟨h1, h2⟩ := hcell e' hj'
      rw [hrho hj'] at r'
      have : some (cb, base', tot) = some x := by rw [← r]; exact updR_self.symm
      injection this with this; subst this
      exact hb.excl id j' b c' (cb, base, tot) x' hg ho h2 hr r' (Ne.symm h1)
    · obtain ⟨h1, h2⟩ := hcell e hj
      rw [hrho hj] at r
      by_cases hj' : j' = id'
      · subst hj'
        have : some (cb, base', tot) = some x' := by rw [← r']; exact updR_self.symm
        injection this with this; subst this
        exact hb.excl j id c b x (cb, base, tot) h2 o hg r hr h1
      · obtain ⟨h3, h4⟩ := hcell e' hj'
        rw [hrho hj'] at r'
        exact hb.excl j j' c c' x x' h2 o h4 r r' hne
  · exact hk k fun e => hno id b _ hg ho hr e.symm
  · by_cases hj : j = id'
    · subst hj
      have : some (cb, base', tot) = some x := by rw [← r]; exact updR_self.symm
      injection this with this; subst this
      exact ⟨id, b, _, hg, ho, hr, rfl⟩
    · obtain ⟨h1, h2⟩ := hcell e hj
      rw [hrho hj] at r
      exact ⟨j, c, x, h2, o, r, rfl⟩
  · by_cases hj : j = id'
    · subst hj
      have : some b' = some c := by simpa [updG] using e
      injection this with this; subst this
      rw [ho'] at o; exact absurd o (by simp)
    · exact (hcell e hj).2
/-- Cells over a row's cells. -/
theorem over_rel {cells xs r : List AS} {cs : Array Value} {base off : Nat} {vs : List Value} (h4 : ∀ (j : Nat) (b : AS), cells[j]? = some b → ∃ v, cs[base + j]? = some v ∧ RS ρ b v) (hl : base + cells.length ≤ cs.size) (hs : splice cells off xs = some r) (hx : RL ρ xs vs) :
    ∀ (j : Nat) (b : AS), r[j]? = some b → ∃ v, (cs.toList.take (base + off) ++ vs ++ cs.toList.drop (base + off + vs.length)).toArray[base + j]? = some v ∧ RS ρ b v := by
  have hxl := hx.length
  rw [splice_eq] at hs
  split at hs
  · rename_i hle
    injection hs with hs
    subst hs
    intro j b e
    have hlen : (cs.toList.take (base + off)).length = base + off := by rw [List.length_take, Array.length_toList]; omega
    have hlc : (cells.take off).length = off := by rw [List.length_take]; omega
    rw [List.getElem?_toArray]
    by_cases h1 : j < off
    · rw [List.getElem?_append_left (by omega), List.getElem?_take, if_pos h1] at e
      obtain ⟨v, hv, hr⟩ := h4 j b e
      refine ⟨v, ?_, hr⟩
      rw [List.append_assoc, List.getElem?_append_left (by omega), List.getElem?_take, if_pos (by omega), Array.getElem?_toList]
      exact hv
    · rw [List.getElem?_append_right (by omega), hlc] at e
      by_cases h2 : j - off < xs.length
      · rw [List.getElem?_append_left h2] at e
        obtain ⟨v, hv, hr⟩ := hx.at _ b e
        refine ⟨v, ?_, hr⟩
        rw [List.append_assoc, List.getElem?_append_right (by omega), hlen, List.getElem?_append_left (by omega), ← hv]
        congr 1
        omega
      · rw [List.getElem?_append_right (by omega), List.getElem?_drop] at e
        obtain ⟨v, hv, hr⟩ := h4 _ b e
        refine ⟨v, ?_, hr⟩
        rw [List.append_assoc, List.getElem?_append_right (by omega), hlen, List.getElem?_append_right (by omega), List.getElem?_drop, Array.getElem?_toList, ← hv]
        congr 1
        omega
  · exact absurd hs (by simp)
theorem over_size {cs : Array Value} {o : Nat} {vs : List Value} (h : o + vs.length ≤ cs.size) : (cs.toList.take o ++ vs ++ cs.toList.drop (o + vs.length)).toArray.size = cs.size := by
  simp
  omega
/-- What a write does. -/
theorem store_ok (hb : RB h.get ρ w) {id off : Nat} {xs : List AS} {vs : List Value} {cb base tot : Nat} (hr : ρ id = some (cb, base, tot)) (hx : RL ρ xs vs) (hs : storeE h id off xs = some h') :
    ∃ w', (storeCells ⟨cb, base + off, none⟩ vs).run P w = .ok () w' ∧ Stp h.get ρ w h'.get ρ w' h.nx h'.nx ∧ h'.nx = h.nx := by
  unfold storeE at hs
  split at hs
  · rename_i cells hg
    obtain ⟨r, hsp, rfl⟩ := map_some_inj hs
    obtain ⟨cb', base', tot', e', cs, ty, fz, h1, h2, h3, h4, h5⟩ := hb.blk id _ hg
    rw [hr] at e'
    injection e' with e'
    injection e' with e1 e2
    injection e2 with e2 e3
    subst e1 e2 e3
    have hfz : fz = (0, 0) := h5 rfl
    subst hfz
    have hxl := hx.length
    have hle : off + xs.length ≤ cells.length := by
      rw [splice_eq] at hsp
      split at hsp
      · assumption
      · exact absurd hsp (by simp)
    have hrl : r.length = cells.length := by
      rw [splice_eq, if_pos hle] at hsp
      injection hsp with hsp
      subst hsp
      simp
      omega
    have hrun := run_storeCells_at P cb (base + off) ty vs 0 cs w h1 (by omega) hx.allOne
    simp only [Nat.add_zero] at hrun
    refine ⟨_, hrun, ?_, rfl⟩
    rw [put_get]
    refine set_stp hb hg rfl hr (setRow_size _ _ _) rfl rfl rfl (fun k hk => setRow_other _ _ _ _ hk) ?_ rfl _
    exact ⟨_, ty, (0, 0), setRow_heap w cb cs _ ty _ h1, by rw [over_size (by omega)]; exact h2, by omega, over_rel h4 (by omega) hsp hx, fun _ => rfl⟩
  · exact absurd hs (by simp)
/-- What an operation that reads and writes does. -/
def COk (P : Program) (w : World) (ρ : Rho) (h : HS) (a : Act) (o : Oper) (h' : HS) (v : AV) : Prop :=
  ∃ u w' ρ', ((execOp a.eval o).run P w = .ok (.value u) w' ∨ ((execOp a.eval o).run P w = .ok .skip w' ∧ u = undef)) ∧ RV ρ' v u ∧ Stp h.get ρ w h'.get ρ' w' h.nx h'.nx ∧ h.nx ≤ h'.nx
theorem run_skip {s : Sem Unit} {w' : World} (h : s.run P w = .ok () w') : (do s; pure Next.skip : Sem Next).run P w = .ok .skip w' := by simp [h]
theorem c_store (hf : RF ρ nt fr a) (hb : RB h.get ρ w) {t : TypeId} {x y : Operand} {s : Nat} {mx my : MX} (hs : sizeP P t = some s) (hx : cX x = some mx) (hy : cX y = some my) {call : CallE} {v : AV} (hv : cStore s mx my call fr h = some (v, h')) :
    COk P w ρ h a ⟨dst, .store t x y, type, pos, after, guard⟩ h' v := by
  unfold cStore at hv
  split at hv
  · rename_i id off cs ha hc
    obtain ⟨hl, h2⟩ := cond_some hv
    obtain ⟨h3, hst, e⟩ := map_some_inj h2
    injection e with e1 e2
    subst e1 e2
    rw [natBeq, decide_eq_true_eq] at hl
    have rx := hf.ev hx
    have ry := hf.ev hy
    rw [ha] at rx
    obtain ⟨cb, base, tot, hr, hp⟩ := rx
    have hcells : RL ρ cs (a.eval y).cells.toList := by
      generalize ev fr my = z at hc ry
      cases z with
      | r z => simp only [cellsOf, Option.some.injEq] at hc; subst hc; exact RR.cells ry
      | t z => exact absurd hc (by simp [cellsOf])
    obtain ⟨w', hrun, hstp, hnx⟩ := store_ok (P := P) hb hr hcells hst
    refine ⟨undef, w', ρ, .inr ⟨?_, rfl⟩, und_rel, hstp, Nat.le_of_eq hnx.symm⟩
    simp only [execOp]
    refine run_skip ?_
    rw [hp]
    have hlen := hcells.length
    simp only [Array.length_toList] at hlen
    have hne : ¬ ((a.eval y).cells.size ≠ s) := fun hn => hn (hlen.symm.trans hl)
    simp only [Instr.storeAt, Instr.sureAddr, Sem.run_bind, Sem.run_pure, Result.andThen_ok, storeVar, sizeP_run hs, hne, if_false, hrun]
  · exact absurd hv (by simp)
end
end Go.Proofs.Ytaijmekhfleciaa.Am
