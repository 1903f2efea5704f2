/- q_ok: all operations that look at no memory. -/
import Derived.Test.YtaijmekhfleciaaAmQ4
set_option linter.unusedVariables false
set_option linter.unusedSimpArgs false
namespace Go.Proofs.Ytaijmekhfleciaa.Am
open Go
section
variable {P : Program} {w : World} {ρ : Rho} {nt : Nat} {fr : Fr} {a : Act}
variable {dst : Option Tmp} {type : TypeId} {pos : String} {after : Array Edge} {guard : Option (Nat × Bool)}
theorem q_pick (hf : RF ρ nt fr a) {c x y : Operand} {q : QOp} {v : AV} (h : cOp P (.pick c x y) = some (.q q)) (hv : qSem q fr = some v) : VOk P w ρ a ⟨dst, .pick c x y, type, pos, after, guard⟩ v := by
  simp only [cOp] at h
  split at h
  · rename_i mc mx my hc hx hy
    injection h with h
    injection h with h
    subst h
    have hv' : pick1 (ev fr mx) (ev fr my) (ev fr mc) = some v := hv
    have hcr := hf.ev hc
    unfold pick1 at hv'
    split at hv'
    · rename_i he
      rw [he] at hcr
      injection hv' with hv'
      subst hv'
      refine ⟨a.eval x, ?_, hf.ev hx⟩
      have hcv : a.eval c = .bool true := hcr
      simp [execOp, hcv, asBool]
    · rename_i he
      rw [he] at hcr
      injection hv' with hv'
      subst hv'
      refine ⟨a.eval y, ?_, hf.ev hy⟩
      have hcv : a.eval c = .bool false := hcr
      simp [execOp, hcv, asBool]
    · exact absurd hv' (by simp)
  · exact absurd h (by simp)
theorem q_nilck (hf : RF ρ nt fr a) {x : Operand} {q : QOp} {v : AV} (h : cOp P (.nilCheck x) = some (.q q)) (hv : qSem q fr = some v) : VOk P w ρ a ⟨dst, .nilCheck x, type, pos, after, guard⟩ v := by
  simp only [cOp] at h
  obtain ⟨m, hm, e⟩ := map_some_inj h
  injection e with e
  subst e
  have hv' : nilck1 (ev fr m) = some v := hv
  have hr := hf.ev hm
  unfold nilck1 at hv'
  split at hv'
  · rename_i id off he
    rw [he] at hr
    injection hv' with hv'
    subst hv'
    obtain ⟨cb, base, tot, e1, e2⟩ := hr
    refine ⟨_, ?_, ⟨cb, base, tot, e1, rfl⟩⟩
    simp [execOp, e2]
  · rename_i n x1 x2 he
    rw [he] at hr
    injection hv' with hv'
    subst hv'
    obtain ⟨u1, u2, e1, e2⟩ := hr
    refine ⟨_, ?_, ⟨u1, u2, rfl, e2⟩⟩
    simp [execOp, e1]
  · exact absurd hv' (by simp)
theorem q_un (hf : RF ρ nt fr a) {op : UnOp} {t : TypeId} {x : Operand} {q : QOp} {v : AV} (h : cOp P (.unOp op t x) = some (.q q)) (hv : qSem q fr = some v) : VOk P w ρ a ⟨dst, .unOp op t x, type, pos, after, guard⟩ v := by
  simp only [cOp] at h
  split at h
  · rename_i m hm
    injection h with h
    injection h with h
    subst h
    have hv' : not1 (ev fr m) = some v := hv
    have hr := hf.ev hm
    unfold not1 at hv'
    split at hv'
    · rename_i b he
      rw [he] at hr
      injection hv' with hv'
      subst hv'
      have hcv : a.eval x = .bool b := hr
      exact ⟨_, by simp [execOp, hcv, Op.unary], rfl⟩
    · exact absurd hv' (by simp)
  · rename_i m hm
    injection h with h
    injection h with h
    subst h
    have hv' : neg1 (ev fr m) = some v := hv
    have hr := hf.ev hm
    unfold neg1 at hv'
    split at hv'
    · rename_i k n he
      rw [he] at hr
      injection hv' with hv'
      subst hv'
      have hcv : a.eval x = .int k n := hr
      exact ⟨.int k (k.wrap (0 - n)), by simp [execOp, hcv, Op.unary, Op.intArith], rfl⟩
    · exact absurd hv' (by simp)
  · exact absurd h (by simp)
theorem q_conv (hf : RF ρ nt fr a) {s d : TypeId} {x : Operand} {q : QOp} {v : AV} (h : cOp P (.convert s d x) = some (.q q)) (hv : qSem q fr = some v) : VOk P w ρ a ⟨dst, .convert s d x, type, pos, after, guard⟩ v := by
  simp only [cOp] at h
  split at h
  · rename_i k0 k m hs hd hm
    injection h with h
    injection h with h
    subst h
    have hv' : conv1 k (ev fr m) = some v := hv
    have hr := hf.ev hm
    unfold conv1 at hv'
    split at hv'
    · rename_i k1 n he
      rw [he] at hr
      injection hv' with hv'
      subst hv'
      have hcv : a.eval x = .int k1 n := hr
      exact ⟨.int k (k.wrap n), by simp [execOp, hcv, convert, run_underlying hs, run_underlying hd, Conv.intToInt], rfl⟩
    · exact absurd hv' (by simp)
  · exact absurd h (by simp)
theorem q_fad (hf : RF ρ nt fr a) {s : TypeId} {x : Operand} {f : Nat} {q : QOp} {v : AV} (h : cOp P (.fieldAddr s x f) = some (.q q)) (hv : qSem q fr = some v) : VOk P w ρ a ⟨dst, .fieldAddr s x f, type, pos, after, guard⟩ v := by
  simp only [cOp] at h
  split at h
  · rename_i fs m hs hm
    split at h
    · rename_i fd hfd
      split at h
      · rename_i n hn
        injection h with h
        injection h with h
        subst h
        have hv' : fad1 fd.offset (ev fr m) = some v := hv
        have hr := hf.ev hm
        unfold fad1 at hv'
        split at hv'
        · rename_i id o he
          rw [he] at hr
          injection hv' with hv'
          subst hv'
          obtain ⟨cb, base, tot, e1, e2⟩ := hr
          refine ⟨.pointer (some ⟨cb, base + o + fd.offset, none⟩), ?_, cb, base, tot, e1, by simp [Nat.add_assoc]⟩
          have hfd' : fs[f]? = some fd := by simpa using hfd
          simp [execOp, Instr.fieldAt, run_underlying hs, hfd', e2, Instr.sureAddr, fieldPlace, sizeP_run hn, add_addr]
        · exact absurd hv' (by simp)
      · exact absurd h (by simp)
    · exact absurd h (by simp)
  · exact absurd h (by simp)
theorem q_fld (hf : RF ρ nt fr a) {s : TypeId} {x : Operand} {f : Nat} {q : QOp} {v : AV} (h : cOp P (.field s x f) = some (.q q)) (hv : qSem q fr = some v) : VOk P w ρ a ⟨dst, .field s x f, type, pos, after, guard⟩ v := by
  simp only [cOp] at h
  split at h
  · rename_i fs m hs hm
    split at h
    · rename_i fd hfd
      split at h
      · rename_i n g hn hg
        injection h with h
        injection h with h
        subst h
        have hv' : fld1 fd.offset n g (ev fr m) = some v := hv
        have hr := hf.ev hm
        unfold fld1 at hv'
        split at hv'
        · rename_i cs he
          rw [he] at hr
          obtain ⟨vs, e2, hl⟩ := rv_agg hr
          obtain ⟨u, h1, h2⟩ := partOf_ok (P := P) (w := w) hg hn hl hv'
          refine ⟨u, ?_, h2⟩
          have hfd' : fs[f]? = some fd := by simpa using hfd
          simp [execOp, Instr.field, run_underlying hs, hfd', e2, asAgg, h1]
        · exact absurd hv' (by simp)
      · exact absurd h (by simp)
    · exact absurd h (by simp)
  · exact absurd h (by simp)
theorem q_ia (hf : RF ρ nt fr a) {t : TypeId} {x i : Operand} {q : QOp} {v : AV} (h : cOp P (.indexAddr t x i) = some (.q q)) (hv : qSem q fr = some v) : VOk P w ρ a ⟨dst, .indexAddr t x i, type, pos, after, guard⟩ v := by
  simp only [cOp] at h
  split at h
  · rename_i n e mx mi ht hx hi
    obtain ⟨s, hs, e'⟩ := map_some_inj h
    injection e' with e'
    subst e'
    have hv' : iaA1 n s (ev fr mx) (asN (ev fr mi)) = some v := hv
    have hr := hf.ev hx
    unfold iaA1 at hv'
    split at hv'
    · rename_i id o j he hj
      rw [he] at hr
      obtain ⟨hlt, h2⟩ := cond_some hv'
      injection h2 with h2
      subst h2
      rw [Nat.blt_eq] at hlt
      obtain ⟨k, hk⟩ := asN_rel (hf.ev hi) hj
      obtain ⟨cb, base, tot, e1, e2⟩ := hr
      refine ⟨.pointer (some ⟨cb, base + o + j * s, none⟩), ?_, cb, base, tot, e1, by simp [Nat.add_assoc]⟩
      have c1 : (0 : Int) ≤ (j : Int) ∧ (j : Int) < (n : Int) := ⟨by omega, by exact_mod_cast hlt⟩
      simp [execOp, Instr.indexAt, hk, asIntOf, run_underlying ht, e2, Instr.sureAddr, sizeP_run hs, add_addr, hlt]
    · exact absurd hv' (by simp)
  · rename_i e mx mi ht hx hi
    obtain ⟨s, hs, e'⟩ := map_some_inj h
    injection e' with e'
    subst e'
    have hv' : iaS1 s (ev fr mx) (asN (ev fr mi)) = some v := hv
    have hr := hf.ev hx
    unfold iaS1 at hv'
    split at hv'
    · rename_i id o len cap sz j he hj
      rw [he] at hr
      obtain ⟨hlt, h2⟩ := cond_some hv'
      obtain ⟨hsz, h3⟩ := cond_some h2
      injection h3 with h3
      subst h3
      rw [Nat.blt_eq] at hlt
      rw [natBeq, decide_eq_true_eq] at hsz
      subst hsz
      obtain ⟨k, hk⟩ := asN_rel (hf.ev hi) hj
      obtain ⟨cb, base, tot, o', c, e1, e2, hlc, ho, _, _⟩ := hr
      have hoo := ho (by omega)
      subst hoo
      refine ⟨.pointer (some ⟨cb, base + o + j * sz, none⟩), ?_, cb, base, tot, e1, by simp [Nat.add_assoc]⟩
      simp [execOp, Instr.indexAt, hk, asIntOf, run_underlying ht, e2, sizeP_run hs, add_addr, hlt]
    · exact absurd hv' (by simp)
  · exact absurd h (by simp)
theorem q_ix (hf : RF ρ nt fr a) {t : TypeId} {x i : Operand} {q : QOp} {v : AV} (h : cOp P (.index t x i) = some (.q q)) (hv : qSem q fr = some v) : VOk P w ρ a ⟨dst, .index t x i, type, pos, after, guard⟩ v := by
  simp only [cOp] at h
  split at h
  · rename_i n e mx mi ht hx hi
    split at h
    · rename_i s g hs hg
      injection h with h
      injection h with h
      subst h
      have hv' : ixA1 n s g (ev fr mx) (asN (ev fr mi)) = some v := hv
      have hr := hf.ev hx
      unfold ixA1 at hv'
      split at hv'
      · rename_i cs j he hj
        rw [he] at hr
        obtain ⟨hlt, h2⟩ := cond_some hv'
        rw [Nat.blt_eq] at hlt
        obtain ⟨k, hk⟩ := asN_rel (hf.ev hi) hj
        obtain ⟨vs, e2, hl⟩ := rv_agg hr
        obtain ⟨u, h1, h3⟩ := partOf_ok (P := P) (w := w) hg hs hl h2
        refine ⟨u, ?_, h3⟩
        simp [execOp, Instr.index, hk, asIntOf, run_underlying ht, e2, sizeP_run hs, hlt, h1]
      · exact absurd hv' (by simp)
    · exact absurd h (by simp)
  · rename_i mx mi ht hx hi
    injection h with h
    injection h with h
    subst h
    have hv' : ixS1 (ev fr mx) (asN (ev fr mi)) = some v := hv
    have hr := hf.ev hx
    unfold ixS1 at hv'
    split at hv'
    · rename_i b j he hj
      rw [he] at hr
      obtain ⟨c, hc, rfl⟩ := map_some_inj hv'
      obtain ⟨k, hk⟩ := asN_rel (hf.ev hi) hj
      have e2 : a.eval x = .string b := hr
      have hjb : j < b.size := (Array.getElem?_eq_some_iff.1 hc).1
      have hgb : b[j]'hjb = c := (Array.getElem?_eq_some_iff.1 hc).2
      refine ⟨.int .u8 c.toNat, ?_, rfl⟩
      simp [execOp, Instr.index, hk, asIntOf, run_underlying ht, e2, getElem?_pos b j hjb, hgb]
    · exact absurd hv' (by simp)
  · exact absurd h (by simp)
theorem RRs.at : ∀ {l : List AR} {m : List Value}, RRs ρ l m → ∀ (j : Nat) (x : AR), l[j]? = some x → ∃ v, m[j]? = some v ∧ RR ρ x v
  | [], [], _, j, a, e => by simp at e
  | x :: l, v :: m, ⟨h1, h2⟩, 0, a, e => by simp at e; subst e; exact ⟨v, rfl, h1⟩
  | x :: l, v :: m, ⟨h1, h2⟩, j + 1, a, e => by simpa using RRs.at h2 j a (by simpa using e)
  | [], _ :: _, h, _, _, _ => h.elim
  | _ :: _, [], h, _, _, _ => h.elim
theorem q_ext (hf : RF ρ nt fr a) {x : Operand} {n : Nat} {q : QOp} {v : AV} (h : cOp P (.extract x n) = some (.q q)) (hv : qSem q fr = some v) : VOk P w ρ a ⟨dst, .extract x n, type, pos, after, guard⟩ v := by
  simp only [cOp] at h
  obtain ⟨m, hm, e⟩ := map_some_inj h
  injection e with e
  subst e
  have hv' : ext1 n (ev fr m) = some v := hv
  have hr := hf.ev hm
  unfold ext1 at hv'
  split at hv'
  · rename_i l he
    rw [he] at hr
    obtain ⟨vs, e2, hl⟩ := hr
    obtain ⟨r, hr', rfl⟩ := map_some_inj hv'
    obtain ⟨u, hu, hru⟩ := hl.at n r hr'
    refine ⟨u, ?_, hru⟩
    simp [execOp, Instr.extract, e2, hu]
  · exact absurd hv' (by simp)
theorem q_mkf (hf : RF ρ nt fr a) {f : FuncId} {x y : Array Operand} {q : QOp} {v : AV} (h : cOp P (.makeFunc (.func f) x y) = some (.q q)) (hv : qSem q fr = some v) : VOk P w ρ a ⟨dst, .makeFunc (.func f) x y, type, pos, after, guard⟩ v := by
  simp only [cOp] at h
  split at h
  · rename_i m1 m2 h1 h2
    injection h with h
    injection h with h
    subst h
    have hv' : qMkf f m1 m2 fr = some v := hv
    unfold qMkf at hv'
    split at hv'
    · rename_i p1 p2 e1 e2
      injection hv' with hv'
      subst hv'
      refine ⟨.func (.func f) (x.map a.eval) (y.map a.eval), by simp [execOp, Instr.makeFunc], (x.map a.eval).toList, (y.map a.eval).toList, by rw [Array.toArray_toList, Array.toArray_toList], ?_, ?_⟩
      · rw [Array.toList_map]; exact RPs_ok hf h1 e1
      · rw [Array.toList_map]; exact RPs_ok hf h2 e2
    · exact absurd hv' (by simp)
  · exact absurd h (by simp)
theorem q_slc (hf : RF ρ nt fr a) {t : TypeId} {x : Operand} {lo hi mx : Option Operand} {q : QOp} {v : AV} (h : cOp P (.slice t x lo hi mx) = some (.q q)) (hv : qSem q fr = some v) : VOk P w ρ a ⟨dst, .slice t x lo hi mx, type, pos, after, guard⟩ v := by
  simp only [cOp] at h
  split at h
  · rename_i m lo' hi' mx' hm hlo hhi hmx
    split at h
    · rename_i e ht
      obtain ⟨s, hs, e'⟩ := map_some_inj h
      injection e' with e'
      subst e'
      have hv' : qSlc s m lo' hi' mx' fr = some v := hv
      have hr := hf.ev hm
      unfold qSlc at hv'
      split at hv'
      · rename_i id off len cap sz he
        rw [he] at hr
        obtain ⟨hsz, h2⟩ := cond_some hv'
        rw [natBeq, decide_eq_true_eq] at hsz
        subst hsz
        obtain ⟨cb, base, tot, o', c, e1, e2, hlc, ho, hcap, htot⟩ := hr
        obtain ⟨l, h', m', cap', hrun, rfl, l1, l2, l3, hc', hn'⟩ := slcE_rel (P := P) (w := w) (isS := true) hf hlo hhi hmx hlc hcap h2
        refine ⟨_, ?_, slice_val e1 ho htot hn' l1 l2 l3 hc'⟩
        have : (Instr.sliceAt t (a.eval x) (lo.map a.eval) (hi.map a.eval) (mx.map a.eval)).run P w = .ok (.slice (some (if m' = l then (⟨cb, o', none⟩ : Addr) else (⟨cb, o', none⟩ : Addr).add (l * sz))) (h' - l) (m' - l)) w := by
          rw [e2]
          simp only [Instr.sliceAt, Instr.slice, Sem.run_bind, run_underlying ht, Result.andThen_ok, hrun, sizeP_run hs, Sem.run_pure]
          split <;> rfl
        simp only [execOp]
        exact run_value this
      · rename_i he
        rw [he] at hr
        split at hv'
        · rename_i b1 b2 b3 e1 e2 e3 e4
          injection hv' with hv'
          subst hv'
          have e5 : a.eval x = .slice none 0 0 := hr
          refine ⟨.slice none 0 0, ?_, rfl⟩
          have bz : ∀ {y : Option Operand} {y' : Option MX} {n : Nat}, cXo y = some y' → bndO fr y' 0 0 = some n → n = 0 ∧ (y = none ∨ ∃ z k, y = some z ∧ a.eval z = .int k 0) := by
            intro y y' n hy hn
            cases y with
            | none => injection hy with hy; subst hy; injection hn with hn; exact ⟨hn.symm, .inl rfl⟩
            | some z =>
              obtain ⟨my, hmy, rfl⟩ := map_some_inj hy
              obtain ⟨k, hk, hle⟩ := bnd_rel hf hmy hn
              obtain rfl : n = 0 := by omega
              exact ⟨rfl, .inr ⟨z, k, rfl, hk⟩⟩
          obtain ⟨rfl, c1⟩ := bz hmx e1
          obtain ⟨rfl, c2⟩ := bz hhi e2
          obtain ⟨rfl, c3⟩ := bz hlo e3
          have hb : ∀ (k : IntKind) (code : BoundsCode), (Instr.sliceBound (.int k 0) 0 code).run P w = .ok 0 w := fun k code => run_sliceBound (n := 0) (Nat.le_refl 0)
          have hbs : (Instr.sliceBounds true 0 0 (lo.map a.eval) (hi.map a.eval) (mx.map a.eval)).run P w = .ok (0, 0, 0) w := by
            unfold Instr.sliceBounds
            rcases c1 with rfl | ⟨z1, k1, rfl, d1⟩
            · rcases c2 with rfl | ⟨z2, k2, rfl, d2⟩ <;> rcases c3 with rfl | ⟨z3, k3, rfl, d3⟩ <;> simp only [Option.map_none, Option.map_some] <;> first
                | simp [d2, d3, hb]
                | simp [d2, hb]
                | simp [d3, hb]
                | simp
            · rcases c2 with rfl | ⟨z2, k2, rfl, d2⟩
              · obtain ⟨m1, hm1, rfl⟩ := map_some_inj hmx
                injection hhi with hhi
                subst hhi
                exact absurd e4 (by simp)
              · rcases c3 with rfl | ⟨z3, k3, rfl, d3⟩ <;> simp only [Option.map_none, Option.map_some] <;> first
                  | simp [d1, d2, d3, hb]
                  | simp [d1, d2, hb]
          simp only [execOp]
          refine run_value ?_
          rw [e5]
          simp only [Instr.sliceAt, Instr.slice, Sem.run_bind, run_underlying ht, Result.andThen_ok, hbs, sizeP_run hs, Sem.run_pure]
          rfl
        · exact absurd hv' (by simp)
      · exact absurd hv' (by simp)
    · rename_i n e ht
      obtain ⟨s, hs, e'⟩ := map_some_inj h
      injection e' with e'
      subst e'
      have hv' : qSlA n s m lo' hi' mx' fr = some v := hv
      have hr := hf.ev hm
      unfold qSlA at hv'
      split at hv'
      · rename_i id off he
        rw [he] at hr
        obtain ⟨cb, base, tot, e1, e2⟩ := hr
        obtain ⟨l, h', m', cap', hrun, rfl, l1, l2, l3, hc', hn'⟩ := slcE_rel (P := P) (w := w) (isS := false) (ccap := n) hf hlo hhi hmx (Nat.le_refl _) (fun k e => by injection e) hv'
        refine ⟨_, ?_, slice_val (c := n) (o := base + off) e1 (fun _ => rfl) (fun e => by simp at e) hn' l1 l2 l3 hc'⟩
        simp only [execOp]
        refine run_value ?_
        rw [e2]
        simp only [Instr.sliceAt, Instr.sureAddr, Sem.run_bind, run_underlying ht, Result.andThen_ok, hrun, sizeP_run hs, Sem.run_pure]
      · exact absurd hv' (by simp)
    · exact absurd h (by simp)
  · exact absurd h (by simp)
end
end Go.Proofs.Ytaijmekhfleciaa.Am
