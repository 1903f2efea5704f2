/- Maps: looking up, updating. -/
import Derived.Test.YtaijmekhfleciaaAmC3
import Derived.MapKept
set_option linter.unusedVariables false
set_option linter.unusedSimpArgs false
set_option linter.unusedSectionVars false
namespace Go.Proofs.Ytaijmekhfleciaa.Am
open Go
section
variable {P : Program} {w : World} {ρ : Rho} {nt : Nat} {fr : Fr} {a : Act} {g : Nat → Option Blk} {h h' : HS}
theorem eqCell_val {k : TK} {a b : AS} {u v : Value} (he : eqCell k a b = some true) (hu : RS ρ a u) (hv : RS ρ b v) : u = v ∧ Instr.sameBits 9999 u u = true := by
  unfold eqCell at he
  split at he
  · obtain ⟨h1, h2⟩ := cond_some he
    injection h2 with h2
    rw [intEq_iff, decide_eq_true_eq] at h2
    obtain rfl := kindEq_eq h1
    subst h2
    obtain rfl : u = _ := hu
    obtain rfl : v = _ := hv
    exact ⟨rfl, by simp [Instr.sameBits]⟩
  · injection he with he
    have he2 := eq_of_beq he
    subst he2
    obtain rfl : u = _ := hu
    obtain rfl : v = _ := hv
    exact ⟨rfl, by simp [Instr.sameBits]⟩
  · injection he with he
    have he2 := (MapKept.bytes_beq _ _).1 he
    subst he2
    obtain rfl : u = _ := hu
    obtain rfl : v = _ := hv
    exact ⟨rfl, by simp only [Instr.sameBits]; exact he⟩
  · exact absurd he (by simp)
theorem eqCells_val : ∀ {ks : List TK} {l m : List AS} {x y : List Value}, eqCells ks l m = some true → RL ρ l x → RL ρ m y → x = y ∧ ((x.zip x).all fun (p, q) => Instr.sameBits 9999 p q) = true
  | [], [], [], [], [], _, _, _ => ⟨rfl, rfl⟩
  | k :: ks, a :: l, b :: m, u :: x, v :: y, he, ⟨h1, h2⟩, ⟨h3, h4⟩ => by
    simp only [eqCells] at he
    split at he
    · rename_i p q hp hq
      injection he with he
      rw [Bool.and_eq_true] at he
      obtain ⟨e1, e2⟩ := he
      subst e1 e2
      obtain ⟨rfl, s1⟩ := eqCell_val hp h1 h3
      obtain ⟨rfl, s2⟩ := eqCells_val hq h2 h4
      refine ⟨rfl, ?_⟩
      simp only [List.zip_cons_cons, List.all_cons, s1, Bool.true_and]
      exact s2
    · exact absurd he (by simp)
  | [], _ :: _, _, _, _, he, _, _ => by simp [eqCells] at he
  | [], [], _ :: _, _, _, he, _, _ => by simp [eqCells] at he
  | _ :: _, [], _, _, _, he, _, _ => by simp [eqCells] at he
  | _ :: _, _ :: _, [], _, _, he, _, _ => by simp [eqCells] at he
  | [], [], [], _ :: _, _, _, hx, _ => hx.elim
  | [], [], [], _, _ :: _, _, _, hy => hy.elim
  | _ :: _, _ :: _, _ :: _, [], _, _, hx, _ => hx.elim
  | _ :: _, _ :: _, _ :: _, _, [], _, _, hy => hy.elim
theorem stays {ks : List TK} {l m : List AS} {x y : List Value} (he : eqCells ks l m = some true) (hx : RL ρ l x) (hy : RL ρ m y) : (Instr.keyThatStays (.agg x.toArray) (.agg x.toArray)).run P w = .ok (.agg x.toArray) w := by
  have hs : Instr.sameBits (9999 + 1) (.agg x.toArray) (.agg x.toArray) = true := by
    simp only [Instr.sameBits, beq_self_eq_true, Bool.true_and]
    exact (eqCells_val he hx hy).2
  unfold Instr.keyThatStays
  rw [show (10000 : Nat) = 9999 + 1 from rfl, hs]
  simp
section
variable {kt : TypeId} {ks : List TK} (hp : plainT P 20 kt = some ks) (hg : aggP P kt = some true) {x : List AS} {xs : List Value} (hx : RL ρ x xs)
include hp hg hx
theorem look_ok {zero : AS} : ∀ {es : List (List AS × AS)} {m : List MapEntry} {v : AS} (i : Nat), REs ρ es m → lookE ks zero es x = some v →
    ∃ r, (Instr.findAsking kt (.agg xs.toArray) m i).run P w = .ok r w ∧ ((r = none ∧ v = zero) ∨ ∃ j u, r = some (j, u) ∧ RS ρ v u)
  | [], [], v, i, _, he => by
    injection he with he
    exact ⟨none, by simp [Instr.findAsking], .inl ⟨rfl, he.symm⟩⟩
  | (k, u) :: es, e :: m, v, i, ⟨⟨kv, e1, h1⟩, h2, h3⟩, he => by
    simp only [lookE] at he
    split at he
    · rename_i hk
      injection he with he
      subst he
      refine ⟨some (i, e.val), ?_, .inr ⟨i, _, rfl, h2⟩⟩
      simp [Instr.findAsking, e1, run_equal_plain hp hg hx h1 hk]
    · rename_i hk
      obtain ⟨r, hr, hh⟩ := look_ok (i + 1) h3 he
      refine ⟨r, ?_, hh⟩
      simp [Instr.findAsking, e1, run_equal_plain hp hg hx h1 hk, hr]
    · exact absurd he (by simp)
  | [], _ :: _, _, _, hm, _ => hm.elim
  | _ :: _, [], _, _, hm, _ => hm.elim
theorem upd_ok {v : AS} {u : Value} (hv : RS ρ v u) : ∀ {es es' : List (List AS × AS)} {m : List MapEntry} (i : Nat), REs ρ es m → updE ks es x v = some es' →
    ((Instr.findAsking kt (.agg xs.toArray) m i).run P w = .ok none w ∧ ∀ b, REs ρ es' (m ++ [{ key := .agg xs.toArray, val := u, born := b }])) ∨
    (∃ j e, (Instr.findAsking kt (.agg xs.toArray) m i).run P w = .ok (some (i + j, e.val)) w ∧ m[j]? = some e ∧ e.key = .agg xs.toArray ∧ (Instr.keyThatStays (.agg xs.toArray) (.agg xs.toArray)).run P w = .ok (.agg xs.toArray) w ∧
      ∀ f : MapEntry → MapEntry, (∀ c, (f c).key = .agg xs.toArray ∧ (f c).val = u) → REs ρ es' (m.modify j f))
  | [], es', [], i, _, he => by
    injection he with he
    subst he
    exact .inl ⟨by simp [Instr.findAsking], fun b => ⟨⟨xs, rfl, hx⟩, hv, trivial⟩⟩
  | (k, c) :: es, es', e :: m, i, ⟨⟨kv, e1, h1⟩, h2, h3⟩, he => by
    simp only [updE] at he
    split at he
    · rename_i hk
      injection he with he
      subst he
      refine .inr ⟨0, e, ?_, rfl, ?_, stays hk hx h1, fun f hf => ?_⟩
      · simp [Instr.findAsking, e1, run_equal_plain hp hg hx h1 hk]
      · rw [e1, (eqCells_val hk hx h1).1]
      · exact ⟨⟨xs, (hf e).1, hx⟩, by rw [(hf e).2]; exact hv, h3⟩
    · rename_i hk
      obtain ⟨es2, hes, rfl⟩ := Option.map_eq_some_iff.1 he
      rcases upd_ok hv (i + 1) h3 hes with ⟨r1, r2⟩ | ⟨j, e', r1, r2, r3, r4, r5⟩
      · exact .inl ⟨by simp [Instr.findAsking, e1, run_equal_plain hp hg hx h1 hk, r1], fun b => ⟨⟨kv, e1, h1⟩, h2, r2 b⟩⟩
      · refine .inr ⟨j + 1, e', ?_, by simpa using r2, r3, r4, fun f hf => ⟨⟨kv, e1, h1⟩, h2, r5 f hf⟩⟩
        simp [Instr.findAsking, e1, run_equal_plain hp hg hx h1 hk, r1]
        omega
    · exact absurd he (by simp)
  | [], _, _ :: _, _, hm, _ => hm.elim
  | _ :: _, _, [], _, hm, _ => hm.elim
/-- A key is looked for. -/
theorem find_run {m : List MapEntry} : (Instr.findKey kt (.agg xs.toArray) m).run P w = (Instr.findAsking kt (.agg xs.toArray) m 0).run P w := by
  obtain ⟨d, hu⟩ : ∃ d, P.underlying kt = some d := by
    unfold aggP at hg
    cases hu : P.underlying kt with
    | none => rw [hu] at hg; exact absurd hg (by simp)
    | some d => exact ⟨d, rfl⟩
  unfold Instr.findKey
  simp only [Sem.run_bind, run_underlying hu, Result.andThen_ok]
  cases m with
  | nil => simp [Instr.findNow, Instr.findAsking]
  | cons e m =>
    have : Instr.findNow d (.agg xs.toArray) (e :: m) 0 = none := by
      simp only [Instr.findNow]
      have : Instr.sameNow d (.agg xs.toArray) e.key = none := by
        cases d <;> simp [Instr.sameNow]
      rw [this]
    rw [this]
theorem check_run {em : Bool} (hl : xs.length = ks.length) : (Instr.checkKey em 10000 kt (.agg xs.toArray)).run P w = .ok () w := by
  obtain ⟨g', g1, _, _, g4⟩ := check_spec (P := P) 9980 20 kt ks hp
  obtain rfl : g' = true := by rw [hg] at g1; injection g1 with g1; exact g1.symm
  exact g4 xs em w hl
end
theorem lookup_ok (hb : RB h.get ρ w) {t kt e : TypeId} {ks : List TK} {zero : AS} (ht : P.underlying t = some (.map kt e)) (hp : plainT P 20 kt = some ks) (hg : aggP P kt = some true) (hzo : zeroOne P e = true) (hz : zeroL P e = some [zero]) {M K : AV} {mv kv : Value} {v : AV}
    (hM : RV ρ M mv) (hK : RV ρ K kv) (hv : cLkp ks zero (.c M) (.c K) (fun _ _ _ => none) fr h = some (v, h')) :
    ∃ u, (Instr.lookup t mv kv false).run P w = .ok u w ∧ RV ρ v u ∧ h' = h := by
  unfold cLkp at hv
  have e0 : ∀ X, ev fr (.c X) = X := fun _ => rfl
  rw [e0, e0] at hv
  split at hv
  · rename_i id x
    split at hv
    · rename_i es hgid
      obtain ⟨hl, h2⟩ := cond_some hv
      obtain ⟨r, hr, e2⟩ := map_some_inj h2
      injection e2 with e2 e3
      subst e2 e3
      rw [natBeq, decide_eq_true_eq] at hl
      obtain ⟨cb, base, tot, hrho, rfl⟩ := hM
      obtain ⟨xs, rfl, hx⟩ := hK
      obtain ⟨cb', base', tot', e', m, clock, d1, d2⟩ := hb.blk id _ hgid
      rw [hrho] at e'
      injection e' with e'
      injection e' with e1 _
      subst e1
      obtain ⟨r', hr', hcase⟩ := look_ok (w := w) hp hg hx 0 d2 hr
      have hck := check_run (w := w) (em := m.isEmpty) hp hg hx (by rw [← hx.length]; exact hl)
      have hfind := find_run (w := w) (m := m.toList) hp hg hx
      rw [hr'] at hfind
      rcases hcase with ⟨rfl, rfl⟩ | ⟨j, u, rfl, hru⟩
      · obtain ⟨zv, hz1, hz2⟩ := zeroL_run (w := w) hz
        have hzr : RL ρ [r] zv.cells.toList := cASs_rel hz2
        have hone : zv.oneCell' = true ∧ RS ρ r zv := by
          have : zv.oneCell' = true := by
            obtain ⟨i, zv2, hi, hz3, _⟩ := zeroL_info hz
            have h3 : (zeroValue e).run P w = .ok zv2 w := by simp [zeroValue, run_info hi, hz3]
            rw [hz1] at h3
            injection h3 with h3
            subst h3
            simpa [zeroOne, hi, hz3] using hzo
          refine ⟨this, ?_⟩
          rw [cells_one this] at hzr
          exact hzr.1
        refine ⟨zv, ?_, hone.2, rfl⟩
        simp [Instr.lookup, run_underlying ht, MapKept.run_getObj_map d1, hck, hfind, hz1]
      · refine ⟨u, ?_, hru, rfl⟩
        simp [Instr.lookup, run_underlying ht, MapKept.run_getObj_map d1, hck, hfind]
    · exact absurd hv (by simp)
  · exact absurd hv (by simp)
theorem mapUpdate_ok (hb : RB h.get ρ w) {t kt e : TypeId} {ks : List TK} (ht : P.underlying t = some (.map kt e)) (hp : plainT P 20 kt = some ks) (hg : aggP P kt = some true) {M K X : AV} {mv kv xv : Value} {v : AV}
    (hM : RV ρ M mv) (hK : RV ρ K kv) (hX : RV ρ X xv) (hv : cUpd ks (.c M) (.c K) (.c X) (fun _ _ _ => none) fr h = some (v, h')) :
    ∃ w', (Instr.mapUpdate t mv kv xv).run P w = .ok () w' ∧ v = und ∧ Stp h.get ρ w h'.get ρ w' h.nx h'.nx ∧ h'.nx = h.nx := by
  unfold cUpd at hv
  have e0 : ∀ X, ev fr (.c X) = X := fun _ => rfl
  rw [e0, e0, e0] at hv
  split at hv
  · rename_i id x y
    split at hv
    · rename_i es hgid
      obtain ⟨hl, h2⟩ := cond_some hv
      obtain ⟨es', hr, e2⟩ := map_some_inj h2
      injection e2 with e2 e3
      subst e2 e3
      rw [natBeq, decide_eq_true_eq] at hl
      obtain ⟨cb, base, tot, hrho, rfl⟩ := hM
      obtain ⟨xs, rfl, hx⟩ := hK
      have hy : RS ρ y xv := hX
      obtain ⟨cb', base', tot', e', m, clock, d1, d2⟩ := hb.blk id _ hgid
      have hrho' := hrho
      rw [hrho] at e'
      injection e' with e'
      injection e' with e1 e2
      injection e2 with e2 e3
      subst e1 e2 e3
      have hlt : cb < w.heap.size := (Array.getElem?_eq_some_iff.1 d1).1
      have hck := check_run (w := w) (em := false) hp hg hx (by rw [← hx.length]; exact hl)
      have hfind := find_run (w := w) (m := m.toList) hp hg hx
      have hset : ∀ (o : Obj) (es2 : Array MapEntry) (ck : Nat), o = .map es2 ck → REs ρ es' es2.toList → Stp h.get ρ w (h.put id (some (.map es'))).get ρ { w with heap := w.heap.setIfInBounds cb o } h.nx h.nx := by
        intro o es2 ck ho hre
        subst ho
        rw [put_get]
        exact set_stp (b' := .map es') (w' := { w with heap := w.heap.setIfInBounds cb (.map es2 ck) }) hb hgid rfl hrho (by simp) rfl rfl rfl (fun k hk => Array.getElem?_setIfInBounds_ne (Ne.symm hk)) ⟨es2, ck, by simp [hlt], hre⟩ rfl _
      rcases upd_ok (w := w) hp hg hx hy 0 d2 hr with ⟨r1, r2⟩ | ⟨j, en, r1, r2, r3, r4, r5⟩
      · rw [r1] at hfind
        refine ⟨_, ?_, rfl, hset _ (m.push { key := .agg xs.toArray, val := xv, born := clock }) (clock + 1) rfl (by rw [Array.toList_push]; exact r2 clock), rfl⟩
        simp [Instr.mapUpdate, run_underlying ht, MapKept.run_getObj_map d1, hck, hfind, MapKept.run_setObj_map _ d1, Result.andThen]
      · rw [r1] at hfind
        refine ⟨_, ?_, rfl, hset _ (m.modify j fun c => { c with key := .agg xs.toArray, val := xv }) clock rfl (by rw [Array.toList_modify]; exact r5 _ fun c => ⟨rfl, rfl⟩), rfl⟩
        have hj : m[j]? = some en := by rw [← Array.getElem?_toList]; exact r2
        rw [Nat.zero_add] at hfind
        simp [Instr.mapUpdate, run_underlying ht, MapKept.run_getObj_map d1, hck, hfind, hj, r3, r4, MapKept.run_setObj_map _ d1, Result.andThen]
    · exact absurd hv (by simp)
  · exact absurd hv (by simp)
end
end Go.Proofs.Ytaijmekhfleciaa.Am
