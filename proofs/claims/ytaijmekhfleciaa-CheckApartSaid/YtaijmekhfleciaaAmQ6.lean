/- q_ok: all operations that look at no memory, together. -/
import Derived.Test.YtaijmekhfleciaaAmQ5
set_option linter.unusedVariables false
set_option linter.unusedSimpArgs false
namespace Go.Proofs.Ytaijmekhfleciaa.Am
open Go
section
variable {P : Program} {w : World} {ρ : Rho} {nt : Nat} {fr : Fr} {a : Act}
variable {dst : Option Tmp} {type : TypeId} {pos : String} {after : Array Edge} {guard : Option (Nat × Bool)}
theorem builtin_run {c : Call} {b : Builtin} {u : Value} (hc : c.callee = .builtin b) (h : ∀ cs, (builtin b c.argTypes type cs (c.args.map a.eval)).run P w = .ok (.value u) w) :
    (execOp a.eval ⟨dst, .call c, type, pos, after, guard⟩).run P w = .ok (.value u) w := by
  simp only [execOp, resolve, hc, Sem.run_bind, Sem.run_pure, Result.andThen_ok, invoke]
  exact h _
theorem len1_sl {x v : AV} {u : Value} (hx : RV ρ x u) (h : len1 false x = some v) : ∃ p l c, u = .slice p l c ∧ RV ρ v (goInt l) := by
  unfold len1 at h
  split at h
  · injection h with h; subst h
    obtain ⟨cb, base, tot, o, c, _, rfl, _⟩ := hx
    exact ⟨_, _, _, rfl, rfl⟩
  · injection h with h; subst h
    exact ⟨_, _, _, hx, rfl⟩
  · exact absurd h (by simp)
  · exact absurd h (by simp)
theorem len1_str {x v : AV} {u : Value} (hx : RV ρ x u) (h : len1 true x = some v) : ∃ b : ByteArray, u = .string b ∧ RV ρ v (goInt b.size) := by
  unfold len1 at h
  split at h
  · exact absurd h (by simp)
  · exact absurd h (by simp)
  · injection h with h; subst h
    exact ⟨_, hx, rfl⟩
  · exact absurd h (by simp)
theorem cap1_ok {x v : AV} {u : Value} (hx : RV ρ x u) (h : cap1 x = some v) : ∃ p l c, u = .slice p l c ∧ RV ρ v (goInt c) := by
  unfold cap1 at h
  split at h
  · rename_i id off n c sz
    injection h with h; subst h
    obtain ⟨cb, base, tot, o, c', _, rfl, _, _, hc, _⟩ := hx
    obtain rfl := hc c rfl
    exact ⟨_, _, _, rfl, rfl⟩
  · injection h with h; subst h
    exact ⟨_, _, _, hx, rfl⟩
  · exact absurd h (by simp)
theorem RVs.one {x : AV} {vs : List Value} (h : RVs ρ [x] vs) : ∃ u, vs = [u] ∧ RV ρ x u := by
  match vs, h with
  | [u], ⟨h, _⟩ => exact ⟨u, rfl, h⟩
  | _ :: _ :: _, ⟨_, h⟩ => exact h.elim
theorem RVs.two {x y : AV} {vs : List Value} (h : RVs ρ [x, y] vs) : ∃ u v, vs = [u, v] ∧ RV ρ x u ∧ RV ρ y v := by
  match vs, h with
  | [u, v], ⟨h1, h2, _⟩ => exact ⟨u, v, rfl, h1, h2⟩
  | [_], ⟨_, h⟩ => exact h.elim
  | _ :: _ :: _ :: _, ⟨_, _, h⟩ => exact h.elim
theorem q_call (hf : RF ρ nt fr a) {c : Call} {q : QOp} {v : AV} (h : cCall P c = some (.q q)) (hv : qSem q fr = some v) : VOk P w ρ a ⟨dst, .call c, type, pos, after, guard⟩ v := by
  unfold cCall at h
  split at h
  · exact absurd h (by simp)
  · rename_i xs hxs
    have hargs : RVs ρ (evs fr xs) (c.args.map a.eval).toList := evsA_ok hf hxs
    split at h
    · exact absurd h (by simp)
    · exact absurd h (by simp)
    · exact absurd h (by simp)
    · exact absurd h (by simp)
    · rename_i b hb
      split at h
      · -- len
        rename_i x t0 ts hts
        obtain ⟨u, hu, hr⟩ := RVs.one hargs
        have e0 : c.argTypes[0]? = some t0 := by rw [← Array.getElem?_toList, hts]; rfl
        have e1 : (c.args.map a.eval)[0]? = some u := by rw [← Array.getElem?_toList, hu]; rfl
        split at h
        · rename_i e ht
          injection h with h; injection h with h; subst h
          obtain ⟨p, l, k, rfl, hn⟩ := len1_sl hr hv
          exact ⟨_, builtin_run hb fun cs => by simp only [builtin, Builtin.len_, e0, e1, Sem.run_bind, run_underlying ht, Result.andThen_ok, Sem.run_pure], hn⟩
        · rename_i ht
          injection h with h; injection h with h; subst h
          obtain ⟨s, rfl, hn⟩ := len1_str hr hv
          exact ⟨_, builtin_run hb fun cs => by simp only [builtin, Builtin.len_, e0, e1, Sem.run_bind, run_underlying ht, Result.andThen_ok, Sem.run_pure], hn⟩
        · rename_i n e ht
          injection h with h; injection h with h; subst h
          have : v = vi n := by injection hv with hv; exact hv.symm
          subst this
          refine ⟨goInt n, builtin_run hb fun cs => ?_, rfl⟩
          simp only [builtin, Builtin.len_, e0, e1, Sem.run_bind, run_underlying ht, Result.andThen_ok]
          cases u <;> rfl
        · exact absurd h (by simp)
      · -- cap
        rename_i x t0 ts hts
        obtain ⟨u, hu, hr⟩ := RVs.one hargs
        have e0 : c.argTypes[0]? = some t0 := by rw [← Array.getElem?_toList, hts]; rfl
        have e1 : (c.args.map a.eval)[0]? = some u := by rw [← Array.getElem?_toList, hu]; rfl
        split at h
        · rename_i e ht
          injection h with h; injection h with h; subst h
          obtain ⟨p, l, k, rfl, hn⟩ := cap1_ok hr hv
          exact ⟨_, builtin_run hb fun cs => by simp only [builtin, Builtin.cap_, e0, e1, Sem.run_bind, run_underlying ht, Result.andThen_ok, Sem.run_pure], hn⟩
        · rename_i n e ht
          injection h with h; injection h with h; subst h
          have : v = vi n := by injection hv with hv; exact hv.symm
          subst this
          refine ⟨goInt n, builtin_run hb fun cs => ?_, rfl⟩
          simp only [builtin, Builtin.cap_, e0, e1, Sem.run_bind, run_underlying ht, Result.andThen_ok]
          cases u <;> rfl
        · exact absurd h (by simp)
      · -- max
        injection h with h; injection h with h; subst h
        obtain ⟨u, x, r, e, hrun, hr⟩ := maxI_ok (P := P) (w := w) hargs hv
        exact ⟨u, builtin_run hb fun cs => by simp only [builtin, Builtin.max_, e, Sem.run_bind, hrun, Result.andThen_ok, Sem.run_pure], hr⟩
      · -- min
        injection h with h; injection h with h; subst h
        obtain ⟨u, x, r, e, hrun, hr⟩ := minI_ok (P := P) (w := w) hargs hv
        exact ⟨u, builtin_run hb fun cs => by simp only [builtin, Builtin.min_, e, Sem.run_bind, hrun, Result.andThen_ok, Sem.run_pure], hr⟩
      · -- append
        split at h
        · split at h
          · obtain ⟨_, h2⟩ := cond_some h; injection h2 with h2; exact absurd h2 (by simp)
          · exact absurd h (by simp)
        · exact absurd h (by simp)
      · -- copy
        split at h
        · obtain ⟨_, _, h2⟩ := map_some_inj h; exact absurd h2 (by simp)
        · exact absurd h (by simp)
      · -- clear
        split at h
        · obtain ⟨_, _, h2⟩ := map_some_inj h; exact absurd h2 (by simp)
        · exact absurd h (by simp)
      · exact absurd h (by simp)
/-- Every operation that looks at no memory does in the model what the small machine tells. -/
theorem q_ok (hf : RF ρ nt fr a) {op : Op} {q : QOp} {v : AV} (h : cOp P op = some (.q q)) (hv : qSem q fr = some v) : VOk P w ρ a ⟨dst, op, type, pos, after, guard⟩ v := by
  cases op with
  | move x =>
    refine ⟨a.eval x, by simp [execOp], q_mv hf (q := q) ?_ hv⟩
    simpa [cOp] using h
  | assign x =>
    refine ⟨a.eval x, by simp [execOp], q_mv hf (q := q) ?_ hv⟩
    simpa [cOp] using h
  | pick c x y => exact q_pick hf h hv
  | build t ps => exact q_build hf h hv
  | nilCheck x => exact q_nilck hf h hv
  | binOp op t x y yt => exact q_bin hf h hv
  | unOp op t x => exact q_un hf h hv
  | convert s d x => exact q_conv hf h hv
  | fieldAddr s x f => exact q_fad hf h hv
  | field s x f => exact q_fld hf h hv
  | indexAddr t x i => exact q_ia hf h hv
  | index t x i => exact q_ix hf h hv
  | extract x n => exact q_ext hf h hv
  | slice t x lo hi mx => exact q_slc hf h hv
  | call c => exact q_call hf h hv
  | makeFunc fn x y =>
    cases fn with
    | func f => exact q_mkf hf h hv
    | _ => exact absurd h (by simp [cOp])
  | alloc e => obtain ⟨_, _, h2⟩ := map_some_inj (by simpa only [cOp] using h); exact absurd h2 (by simp)
  | box e x =>
    simp only [cOp] at h
    split at h
    · injection h with h; exact absurd h (by simp)
    · exact absurd h (by simp)
  | buildSlice t len ps =>
    simp only [cOp] at h
    split at h
    · split at h
      · obtain ⟨_, h2⟩ := cond_some h
        obtain ⟨_, _, h3⟩ := map_some_inj h2
        exact absurd h3 (by simp)
      · exact absurd h (by simp)
    · exact absurd h (by simp)
  | load t x =>
    simp only [cOp] at h
    split at h
    · injection h with h; exact absurd h (by simp)
    · injection h with h; exact absurd h (by simp)
    · exact absurd h (by simp)
  | store t x y =>
    simp only [cOp] at h
    split at h
    · injection h with h; exact absurd h (by simp)
    · exact absurd h (by simp)
  | makeMap t r =>
    cases r with
    | some r => exact absurd h (by simp [cOp])
    | none =>
      simp only [cOp] at h
      split at h
      · injection h with h; exact absurd h (by simp)
      · exact absurd h (by simp)
  | makeSlice t l c =>
    simp only [cOp] at h
    split at h
    · split at h
      · obtain ⟨_, h2⟩ := cond_some h; injection h2 with h2; exact absurd h2 (by simp)
      · exact absurd h (by simp)
    · exact absurd h (by simp)
  | lookup t m k ok =>
    cases ok with
    | true => exact absurd h (by simp [cOp])
    | false =>
      simp only [cOp] at h
      split at h
      · split at h
        · obtain ⟨_, h9⟩ := cond_some h; obtain ⟨_, _, h2⟩ := map_some_inj h9; exact absurd h2 (by simp)
        · exact absurd h (by simp)
      · exact absurd h (by simp)
  | mapUpdate t m k x =>
    simp only [cOp] at h
    split at h
    · split at h
      · obtain ⟨_, _, h2⟩ := map_some_inj h; exact absurd h2 (by simp)
      · exact absurd h (by simp)
    · exact absurd h (by simp)
  | _ => exact absurd h (by simp [cOp])
end
end Go.Proofs.Ytaijmekhfleciaa.Am
