/- Operations that make a block. -/
import Derived.Test.YtaijmekhfleciaaAmL
import Derived.IntWalk
import Derived.Laws.MakeOwn
set_option linter.unusedVariables false
set_option linter.unusedSimpArgs false
namespace Go.Proofs.Ytaijmekhfleciaa.Am
open Go
def updG (g : Nat → Option Blk) (id : Nat) (b : Option Blk) : Nat → Option Blk := fun j => if j = id then b else g j
def updR (ρ : Rho) (id : Nat) (x : Nat × Nat × Nat) : Rho := fun j => if j = id then some x else ρ j
section
variable {P : Program} {w : World} {ρ : Rho} {nt : Nat} {fr : Fr} {a : Act} {g : Nat → Option Blk}
variable {dst : Option Tmp} {type : TypeId} {pos : String} {after : Array Edge} {guard : Option (Nat × Bool)}
theorem updR_ext {id : Nat} {x : Nat × Nat × Nat} (h : ρ id = none) : Ext ρ (updR ρ id x) := by
  intro j y e
  unfold updR
  split
  · rename_i hj; subst hj; rw [h] at e; exact absurd e (by simp)
  · exact e
theorem updR_self {id : Nat} {x : Nat × Nat × Nat} : updR ρ id x id = some x := by simp [updR]
theorem heap_new (w : World) (o : Obj) : (w.alloc o).heap[w.heap.size]? = some o := heap_alloc_new w o
theorem heap_old (w : World) (o : Obj) {k : Nat} (h : k < w.heap.size) : (w.alloc o).heap[k]? = w.heap[k]? := heap_alloc_old w o k h
/-- A new block. -/
theorem new_stp (hb : RB g ρ w) {id tot : Nat} (hid : ρ id = none) {b : Blk} {o : Obj} (hr : RBlk (updR ρ id (w.heap.size, 0, tot)) (w.alloc o) w.heap.size 0 tot b) (hown : b.own = true) :
    Stp g ρ w (updG g id (some b)) (updR ρ id (w.heap.size, 0, tot)) (w.alloc o) id (id + 1) := by
  have hext := updR_ext (x := (w.heap.size, 0, tot)) hid
  have hgid : g id = none := by
    cases hg : g id with
    | none => rfl
    | some b' =>
      obtain ⟨_, _, _, e, _⟩ := hb.blk id b' hg
      rw [hid] at e; exact absurd e (by simp)
  have hlt : ∀ {j b' x}, g j = some b' → ρ j = some x → x.1 < w.heap.size := by
    intro j b' x e r
    obtain ⟨cb, base, tot', r', h⟩ := hb.blk j b' e
    rw [r] at r'; injection r' with r'; subst r'
    exact h.lt
  refine ⟨hext, fun j hj => ?_, ⟨fun j b' e => ?_, fun j j' b1 b2 x x' e o1 e' r r' hne => ?_⟩, by simp, rfl, rfl, rfl, fun k hk _ => heap_old w o hk, fun j b' x e o1 r hx => ?_, fun j b' e o1 => ?_⟩
  · unfold updR; rw [if_neg (by omega)]
  · unfold updG at e
    split at e
    · rename_i hj; subst hj
      injection e with e; subst e
      exact ⟨_, _, _, updR_self, hr⟩
    · obtain ⟨cb, base, tot', r, h⟩ := hb.blk j b' e
      exact ⟨cb, base, tot', hext _ _ r, (h.mono hext).of_heap (heap_old w o h.lt)⟩
  · unfold updG at e e'
    unfold updR at r r'
    split at e
    · rename_i hj
      rw [if_pos hj] at r
      injection r with r; subst r
      rw [if_neg (fun h => hne (by omega))] at e' r'
      have := hlt e' r'
      show w.heap.size ≠ x'.1
      omega
    · rename_i hj
      rw [if_neg hj] at r
      split at e'
      · rename_i hj'
        rw [if_pos hj'] at r'
        injection r' with r'; subst r'
        have := hlt e r
        show x.1 ≠ w.heap.size
        omega
      · rename_i hj'
        rw [if_neg hj'] at r'
        exact hb.excl j j' b1 b2 x x' e o1 e' r r' hne
  · unfold updG at e
    unfold updR at r
    split at e
    · rename_i hj
      rw [if_pos hj] at r
      injection r with r; subst r
      exact absurd hx (Nat.lt_irrefl _)
    · rename_i hj
      rw [if_neg hj] at r
      exact ⟨j, b', x, e, o1, r, rfl⟩
  · unfold updG at e
    split at e
    · injection e with e; subst e
      rw [hown] at o1; exact absurd o1 (by simp)
    · exact e
/-- A new row of cells. -/
theorem row_blk {cells : List AS} {cs : Array Value} {e : TypeId} (hr : RL ρ cells (cs.toList.take cells.length)) (hl : cells.length ≤ cs.size) : RBlk ρ (w.alloc (.cells cs e)) w.heap.size 0 cs.size (.row true cells) := by
  refine ⟨cs, e, (0, 0), heap_new _ _, rfl, by omega, fun j b hj => ?_, fun _ => rfl⟩
  obtain ⟨v, hv, hs⟩ := hr.at j b hj
  refine ⟨v, ?_, hs⟩
  rw [List.getElem?_take] at hv
  split at hv
  · rw [Nat.zero_add]; simpa using hv
  · exact absurd hv (by simp)
theorem row_blk' {cells : List AS} {cs : Array Value} {e : TypeId} (hr : RL ρ cells cs.toList) : RBlk ρ (w.alloc (.cells cs e)) w.heap.size 0 cs.size (.row true cells) := by
  have hl := hr.length
  refine row_blk ?_ (by rw [hl]; simp)
  rw [hl, List.take_length]
  exact hr
/-- What an operation that makes a block does. -/
def NOk (P : Program) (g : Nat → Option Blk) (ρ : Rho) (w : World) (id : Nat) (a : Act) (o : Oper) (b : Blk) (v : AV) : Prop :=
  ∃ u w' ρ', (execOp a.eval o).run P w = .ok (.value u) w' ∧ RV ρ' v u ∧ Stp g ρ w (updG g id (some b)) ρ' w' id (id + 1)
theorem nok_row (hb : RB g ρ w) {id : Nat} (hid : ρ id = none) {o : Oper} {cells : List AS} {cs : Array Value} {e : TypeId} {v : AV} {u : Value} (hr : RL ρ cells cs.toList)
    (hrun : (execOp a.eval o).run P w = .ok (.value u) (w.alloc (.cells cs e))) (hv : RV (updR ρ id (w.heap.size, 0, cs.size)) v u) : NOk P g ρ w id a o (.row true cells) v :=
  ⟨u, _, _, hrun, hv, new_stp hb hid (row_blk' (RL.mono (updR_ext hid) hr)) rfl⟩
theorem run_newRow (e : TypeId) (cs : Array Value) : (newRow e cs).run P w = .ok ⟨w.heap.size, 0, none⟩ (w.alloc (.cells cs e)) := by simp [newRow]
theorem repl_rel {z : List AS} {zv : Value} {n : Nat} (hz : RL ρ z zv.cells.toList) (hl : 0 < z.length) : RL ρ (repl z n) ((Array.range (n * zv.cells.size)).map fun j => zv.cells[j % zv.cells.size]!).toList := by
  have hzl := hz.length
  simp only [Array.length_toList] at hzl
  refine RL.of_at _ _ (by rw [repl_length]; simp [hzl]) fun j b e => ?_
  have hj : j < n * z.length := by
    have := (List.getElem?_eq_some_iff.1 e).1
    rwa [repl_length] at this
  rw [repl_at z n j hj] at e
  obtain ⟨v, hv, hs⟩ := hz.at _ b e
  refine ⟨v, ?_, hs⟩
  have hm : j % zv.cells.size < zv.cells.size := Nat.mod_lt _ (by omega)
  rw [hzl] at hv hj
  rw [Array.getElem?_toList, Array.getElem?_eq_getElem hm] at hv
  injection hv with hv
  simp [hj, hm, hv]
theorem n_ok (hf : RF ρ nt fr a) (hb : RB g ρ w) {id : Nat} (hid : ρ id = none) {op : Op} {o : NOp} {b : Blk} {v : AV} (h : cOp P op = some (.n o)) (hv : nSem o fr id = some (b, v)) : NOk P g ρ w id a ⟨dst, op, type, pos, after, guard⟩ b v := by
  have ptr : ∀ {tot : Nat}, RV (updR ρ id (w.heap.size, 0, tot)) (.r (.v (.p id 0))) (.pointer (some ⟨w.heap.size, 0, none⟩)) := fun {tot} => ⟨_, _, _, updR_self, rfl⟩
  cases op with
  | alloc e =>
    obtain ⟨z, hz, e'⟩ := map_some_inj (show (zeroL P e).map (fun z => MOp.n (.alloc z)) = some (.n o) by simpa only [cOp] using h)
    injection e' with e'
    subst e'
    obtain ⟨zv, hzv, hzc⟩ := zeroL_run (w := w) hz
    have hv' : nAlloc z fr id = some (b, v) := hv
    simp only [nAlloc, Option.some.injEq, Prod.mk.injEq] at hv'
    obtain ⟨rfl, rfl⟩ := hv'
    refine nok_row hb hid (cs := zv.cells) (e := e) (cASs_rel hzc) ?_ ptr
    simp only [execOp]
    refine run_value ?_
    simp only [Instr.alloc, Sem.run_bind, hzv, Result.andThen_ok, newVar, run_newRow, Sem.run_pure]
  | box e x =>
    simp only [cOp] at h
    split at h
    · rename_i n m hn hm
      injection h with h; injection h with h; subst h
      have hv' : nBox n m fr id = some (b, v) := hv
      unfold nBox at hv'
      split at hv'
      · rename_i cs hcs
        obtain ⟨_, h2⟩ := cond_some hv'
        injection h2 with h2
        injection h2 with h2 h3
        subst h2 h3
        have hx := hf.ev hm
        have hr : RL ρ cs (a.eval x).cells.toList := by
          generalize ev fr m = y at hcs hx
          cases y with
          | r y => simp only [cellsOf, Option.some.injEq] at hcs; subst hcs; exact RR.cells hx
          | t y => exact absurd hcs (by simp [cellsOf])
        refine nok_row hb hid (cs := (a.eval x).cells) (e := e) hr ?_ ptr
        simp only [execOp]
        refine run_value ?_
        simp only [Instr.box, newVar, Sem.run_bind, run_newRow, Result.andThen_ok, Sem.run_pure]
      · exact absurd hv' (by simp)
    · exact absurd h (by simp)
  | buildSlice t len ps =>
    simp only [cOp] at h
    split at h
    · rename_i e ht
      split at h
      · rename_i s z hrow
        obtain ⟨hlen, h2⟩ := cond_some h
        obtain ⟨l, hl, e'⟩ := map_some_inj h2
        injection e' with e'
        subst e'
        unfold rowL at hrow
        split at hrow
        · rename_i s' z' hs hz
          obtain ⟨hc, hrow⟩ := cond_some hrow
          injection hrow with hrow
          injection hrow with r1 r2
          subst r1 r2
          rw [Bool.and_eq_true, natBeq, decide_eq_true_eq, Nat.blt_eq] at hc
          obtain ⟨hzl, hs0⟩ := hc
          rw [Nat.ble_eq] at hlen
          obtain ⟨zv, hzv, hzc⟩ := zeroL_run (w := w) hz
          have hzr : RL ρ z' zv.cells.toList := cASs_rel hzc
          have hv' : nBslice len s' z' l fr id = some (b, v) := hv
          unfold nBslice at hv'
          split at hv'
          · rename_i cl hcl
            obtain ⟨r, hr, e'⟩ := map_some_inj hv'
            injection e' with e1 e2
            subst e1 e2
            obtain ⟨f1, f2⟩ := evCells_ok hf hl hcl
            have hzsz : zv.cells.size = s' := by have := hzr.length; simp only [Array.length_toList] at this; omega
            obtain ⟨cs', f3, f4⟩ := fill_ok (ρ := ρ) f1 f2 (repl_rel (n := len) hzr (by omega)) hr
            rw [hzsz] at f3
            refine nok_row hb hid (cs := cs') (e := e) f4 ?_ ⟨_, _, _, w.heap.size |> fun _ => 0, len, updR_self, rfl, Nat.le_refl _, fun _ => rfl, fun k e => by injection e, fun e => by simp at e⟩
            simp only [execOp]
            refine run_value ?_
            have hsmall : ¬ (len * s' > 2 ^ 24) := by omega
            have hfill : Instr.fill (fun i => some (i * s', s')) ((Array.range (len * s')).map fun x => zv.cells[x % s']!) (ps.map fun (i, x) => (i, a.eval x)).toList = some cs' := by
              rw [Array.toList_map]; exact f3
            by_cases h0 : len * s' = 0
            · have hl0 : len = 0 := by
                rcases Nat.mul_eq_zero.1 h0 with h | h
                · exact h
                · omega
              subst hl0
              simp only [Nat.zero_mul] at hfill
              simp only [Instr.buildSlice, Sem.run_bind, run_underlying ht, Result.andThen_ok, sizeP_run hs, Sem.run_ite, Nat.zero_mul]
              simp only [show ¬ (0 > 2 ^ 24) by omega, if_false, if_true, Sem.run_pure, Result.andThen_ok]
              have : Instr.fill (fun i => some (i * s', s')) ((Array.range 0).map fun x => (#[] : Array Value)[x % (#[] : Array Value).size]!) (ps.map fun (i, x) => (i, a.eval x)).toList = some cs' := by
                rw [show ((Array.range 0).map fun x => (#[] : Array Value)[x % (#[] : Array Value).size]!) = (Array.range 0).map fun x => zv.cells[x % s']! from by simp]
                exact hfill
              rw [this]
              simp only [Sem.run_bind, run_newRow, Result.andThen_ok, Sem.run_pure]
            · simp only [Instr.buildSlice, Sem.run_bind, run_underlying ht, Result.andThen_ok, sizeP_run hs, Sem.run_ite, hsmall, if_false, h0, hzv, Sem.run_pure, hzsz, hfill, run_newRow]
          · exact absurd hv' (by simp)
        · exact absurd hrow (by simp)
      · exact absurd h (by simp)
    · exact absurd h (by simp)
  | makeMap t r =>
    cases r with
    | some r => exact absurd h (by simp [cOp])
    | none =>
      simp only [cOp] at h
      split at h
      · injection h with h; injection h with h; subst h
        have hv' : nMap fr id = some (b, v) := hv
        simp only [nMap, Option.some.injEq, Prod.mk.injEq] at hv'
        obtain ⟨rfl, rfl⟩ := hv'
        refine ⟨.map (some w.heap.size), w.alloc (.map #[] 0), updR ρ id (w.heap.size, 0, 0), ?_, ⟨_, _, _, updR_self, rfl⟩, new_stp hb hid ⟨#[], 0, heap_new _ _, trivial⟩ rfl⟩
        simp [execOp, Instr.makeMap]
      · exact absurd h (by simp)
  | makeSlice t l c =>
    simp only [cOp] at h
    split at h
    · rename_i e ml mc ht hml hmc
      split at h
      · rename_i s z by' hrow hby
        obtain ⟨hb0, h2⟩ := cond_some h
        injection h2 with h2; injection h2 with h2; subst h2
        unfold rowL at hrow
        split at hrow
        · rename_i s' z' hs hz
          obtain ⟨hc, hrow⟩ := cond_some hrow
          injection hrow with hrow
          injection hrow with r1 r2
          subst r1 r2
          rw [Bool.and_eq_true, natBeq, decide_eq_true_eq, Nat.blt_eq] at hc
          obtain ⟨hzl, hs0⟩ := hc
          obtain ⟨zv, hzv, hzc⟩ := zeroL_run (w := w) hz
          have hzr : RL ρ z' zv.cells.toList := cASs_rel hzc
          obtain ⟨ti, hti, htb⟩ := bytesP_run (w := w) hby
          have hv' : nMslice s' by' z' ml mc fr id = some (b, v) := hv
          unfold nMslice at hv'
          split at hv'
          · rename_i x y hx hy
            split at hv'
            · rename_i m n hm hn
              obtain ⟨hc, h3⟩ := cond_some hv'
              injection h3 with h3
              injection h3 with e1 e2
              subst e1 e2
              simp only [Bool.and_eq_true, natBeq, decide_eq_true_eq, Nat.ble_eq] at hc
              obtain ⟨hmn, hbn, hn0⟩ := hc
              subst hmn
              obtain rfl := natOf_eq hm
              obtain rfl := natOf_eq hn
              have el : a.eval l = .int .i64 m := by
                have := hf.ev hml
                unfold asI at hx
                split at hx
                · rename_i k n he
                  injection hx with hx; injection hx with h1 h2; subst h1 h2
                  rw [he] at this; exact this
                · exact absurd hx (by simp)
              have ec : a.eval c = .int .i64 m := by
                have := hf.ev hmc
                unfold asI at hy
                split at hy
                · rename_i k n he
                  injection hy with hy; injection hy with h1 h2; subst h1 h2
                  rw [he] at this; exact this
                · exact absurd hy (by simp)
              have hzsz : zv.cells.size = s' := by have := hzr.length; simp only [Array.length_toList] at this; omega
              have hrr := repl_rel (n := m) hzr (by omega)
              refine nok_row hb hid (e := e) hrr ?_ ⟨_, _, _, 0, m, updR_self, rfl, Nat.le_refl _, fun _ => rfl, fun k e => by injection e, fun e => by simp at e⟩
              simp only [execOp]
              refine run_value ?_
              rw [el, ec]
              obtain ⟨i, hi, hib⟩ := Option.map_eq_some_iff.1 hby
              obtain ⟨i2, zv2, hi2, hz2, _⟩ := zeroL_info hz
              rw [hi] at hi2; injection hi2 with hi2; subst hi2
              have hzz : zv2 = zv := by
                have : (zeroValue e).run P w = .ok zv2 w := by simp [zeroValue, run_info hi, hz2]
                rw [hzv] at this; injection this with this; exact this.symm
              subst hzz
              have hsz : i.size = s' := by
                obtain ⟨i3, hi3, h3⟩ := Option.map_eq_some_iff.1 hs
                rw [hi] at hi3; injection hi3 with hi3; subst hi3; exact h3
              have hbig : (i.bytes : Int) * (m : Int) ≤ 281474976710656 := by
                have : ((by' * m : Nat) : Int) ≤ 1000000000000 := Int.ofNat_le.2 hbn
                rw [Int.natCast_mul] at this
                rw [hib]
                omega
              have := run_make (P := P) w t e i zv2 ht hi hz2 .i64 .i64 m m (by omega) (Int.le_refl _) hbig (by omega)
              simp only [Int.toNat_natCast, madeCells, hsz] at this
              rw [this, hzsz]
            · exact absurd hv' (by simp)
          · exact absurd hv' (by simp)
        · exact absurd hrow (by simp)
      · exact absurd h (by simp)
    · exact absurd h (by simp)
  | _ =>
    have hc := cOp_cls h
    simp [clsOp, isQ, isQC] at hc
end
end Go.Proofs.Ytaijmekhfleciaa.Am
