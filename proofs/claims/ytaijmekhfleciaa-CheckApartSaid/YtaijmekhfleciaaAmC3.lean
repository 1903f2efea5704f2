/- copy, clear; maps. -/
import Derived.Test.YtaijmekhfleciaaAmC2
set_option linter.unusedVariables false
set_option linter.unusedSimpArgs false
namespace Go.Proofs.Ytaijmekhfleciaa.Am
open Go
section
variable {P : Program} {w : World} {ρ : Rho} {nt : Nat} {fr : Fr} {a : Act} {g : Nat → Option Blk} {h h' : HS}
/-- A write of nothing: the model's world stays. -/
theorem store_nil (hb : RB h.get ρ w) {id off cb base tot : Nat} (hr : ρ id = some (cb, base, tot)) (hs : storeE h id off [] = some h') : Stp h.get ρ w h'.get ρ w h.nx h'.nx ∧ h'.nx = h.nx := by
  obtain ⟨w', h1, h2, h3⟩ := store_ok (P := default) (xs := []) (vs := []) hb hr trivial hs
  have : (Result.ok () w : Result Unit) = .ok () w' := by rw [← h1]; rfl
  injection this with _ this
  subst this
  exact ⟨h2, h3⟩
theorem copy_ok (hb : RB h.get ρ w) {t t1 ty e : TypeId} {size : Nat} (ht : P.underlying t = some (.slice e)) (hs : sizeP P e = some size) {D S v : AV} {dv sv : Value} {n m : Nat} {new : List AS} (hD : RV ρ D dv) (hS : RV ρ S sv) (hn : lenOf D = some n) (hm : lenOf S = some m)
    (he : elems h.get size (Nat.min m n) S = some new) (hv : cpyTo h size (Nat.min m n) new D = some (v, h')) :
    ∃ u w', (Builtin.copy_ #[t, t1] ty #[dv, sv]).run P w = .ok u w' ∧ RV ρ v u ∧ Stp h.get ρ w h'.get ρ w' h.nx h'.nx ∧ h.nx ≤ h'.nx := by
  obtain ⟨vs, f1, f2, f3⟩ := elems_ok hb hS he
  have hfirst := first_run (P := P) f2 f3
  obtain ⟨sa, sc, e1, _, _⟩ := lenOf_ok hS hm
  have hlen : (Builtin.lenOf sv).run P w = .ok m w := by rw [e1]; rfl
  unfold cpyTo at hv
  split at hv
  · rename_i id off len cap sz
    obtain ⟨hz, h2⟩ := cond_some hv
    rw [natBeq, decide_eq_true_eq] at hz
    subst hz
    obtain ⟨h3, hst, e2⟩ := map_some_inj h2
    injection e2 with e2 e3
    subst e2 e3
    injection hn with hn
    subst hn
    obtain ⟨cb, base, tot, o, c, hr, rfl, hnc, ho, _⟩ := hD
    have key : ∃ w', (storeCells ⟨cb, o, none⟩ vs).run P w = .ok () w' ∧ Stp h.get ρ w h3.get ρ w' h.nx h3.nx ∧ h3.nx = h.nx := by
      by_cases hc : 0 < c
      · obtain rfl := ho hc
        exact store_ok hb hr f1 hst
      · have h0 : Nat.min m len = 0 := by have : Nat.min m len ≤ len := Nat.min_le_right _ _; omega
        have hvs : vs = [] := List.length_eq_zero_iff.1 (by rw [f2, h0, Nat.zero_mul])
        subst hvs
        have hnew : new = [] := by have := f1.length; exact List.length_eq_zero_iff.1 (by simpa using this)
        subst hnew
        exact ⟨w, rfl, store_nil hb hr hst⟩
    obtain ⟨w', hrun, hstp, hnx⟩ := key
    refine ⟨goInt (Nat.min m len), w', ?_, rfl, hstp, Nat.le_of_eq hnx.symm⟩
    simp only [Builtin.copy_, List.getElem?_toArray, List.getElem?_cons_zero, List.getElem?_cons_succ, Sem.run_bind, run_underlying ht, Result.andThen_ok, hlen, sizeP_run hs, hfirst, hrun, Sem.run_pure]
  · injection hv with hv
    injection hv with e2 e3
    subst e2 e3
    injection hn with hn
    subst hn
    obtain rfl : dv = .slice none 0 0 := hD
    refine ⟨goInt (Nat.min m 0), w, ?_, rfl, Stp.refl hb _, Nat.le_refl _⟩
    simp only [Builtin.copy_, List.getElem?_toArray, List.getElem?_cons_zero, List.getElem?_cons_succ, Sem.run_bind, run_underlying ht, Result.andThen_ok, hlen, sizeP_run hs, hfirst, Sem.run_pure]
  · exact absurd hv (by simp)
theorem clear_ok (hb : RB h.get ρ w) {t t1 ty e : TypeId} {size : Nat} {z : List AS} {zv : Value} (ht : P.underlying t = some (.slice e)) (hz : (zeroValue e).run P w = .ok zv w) (hzr : RL ρ z zv.cells.toList) (hl : z.length = size) (hs0 : 0 < size) {X v : AV} {xv : Value} (hX : RV ρ X xv) {ts : List TypeId}
    (hv : cClr size z (.c X) (fun _ _ _ => none) fr h = some (v, h')) :
    ∃ u w', (Builtin.clear_ (t :: ts).toArray ty #[xv]).run P w = .ok u w' ∧ RV ρ v u ∧ Stp h.get ρ w h'.get ρ w' h.nx h'.nx ∧ h.nx ≤ h'.nx := by
  unfold cClr at hv
  have e0 : ev fr (.c X) = X := rfl
  rw [e0] at hv
  split at hv
  · injection hv with hv
    injection hv with e1 e2
    subst e1 e2
    obtain rfl : xv = .slice none 0 0 := hX
    exact ⟨undef, w, by simp [Builtin.clear_, run_underlying ht, undef], und_rel, Stp.refl hb _, Nat.le_refl _⟩
  · rename_i id off n cap sz
    obtain ⟨cb, base, tot, o, c, hr, rfl, hnc, ho, _⟩ := hX
    by_cases h0 : n = 0
    · rw [natBeq, decide_eq_true h0, cond_true] at hv
      injection hv with hv
      injection hv with e1 e2
      subst e1 e2 h0
      exact ⟨undef, w, by simp [Builtin.clear_, run_underlying ht, undef], und_rel, Stp.refl hb _, Nat.le_refl _⟩
    · rw [natBeq, decide_eq_false h0, cond_false] at hv
      obtain ⟨_, h2⟩ := cond_some hv
      obtain ⟨h3, hst, e2⟩ := map_some_inj h2
      injection e2 with e2 e3
      subst e2 e3
      obtain rfl := ho (by omega)
      have hzl := hzr.length
      simp only [Array.length_toList] at hzl
      obtain ⟨w', hrun, hstp, hnx⟩ := store_ok (P := P) hb hr (repl_rel (n := n) hzr (by omega)) hst
      refine ⟨undef, w', ?_, und_rel, hstp, Nat.le_of_eq hnx.symm⟩
      cases n with
      | zero => exact absurd rfl h0
      | succ n => simp only [Builtin.clear_, List.getElem?_toArray, List.getElem?_cons_zero, Sem.run_bind, run_underlying ht, Result.andThen_ok, hz, Builtin.zeroCells, hrun, Sem.run_pure, undef]
  · exact absurd hv (by simp)

/-! Maps -/
def CkOk (P : Program) (d : Nat) (t : TypeId) (ks : List TK) : Prop :=
  ∃ g, aggP P t = some g ∧ sizeP P t = some ks.length ∧ (g = false → ks.length = 1) ∧ ∀ (xs : List Value) (em : Bool) (w : World), xs.length = ks.length → (Instr.checkKey em d t (valOf g xs)).run P w = .ok () w
theorem ckFields {d : Nat} {em : Bool} {w : World} {xs : List Value} (rec : TypeId → Option (List TK)) (size : Option Nat) (ih : ∀ t ks, rec t = some ks → CkOk P d t ks) : ∀ (fs : List Field) (off : Nat) (ks : List TK), plainFs P rec size off fs = some ks → off + ks.length ≤ xs.length →
    (forIn fs PUnit.unit (fun f (_ : PUnit) => (do
      if f.name ≠ "_" then Instr.checkKey em d f.type (← part f.type xs.toArray f.offset)
      pure (ForInStep.yield PUnit.unit) : Sem (ForInStep PUnit)))).run P w = .ok PUnit.unit w := by
  intro fs
  induction fs with
  | nil => intro off ks h hl; simp
  | cons f fs ihf =>
    intro off ks h hl
    simp only [plainFs] at h
    obtain ⟨hc, h2⟩ := cond_some h
    split at h2
    · rename_i k1 hk1
      obtain ⟨k2, hk2, rfl⟩ := Option.map_eq_some_iff.1 h2
      rw [Bool.and_eq_true, natBeq, decide_eq_true_eq] at hc
      obtain ⟨hn, hoff⟩ := hc
      have hname : f.name ≠ "_" := by simpa using hn
      obtain ⟨g, g1, g2, g3, g4⟩ := ih _ _ hk1
      rw [List.length_append] at hl
      have hp := run_partOf (w := w) (xs := xs) (off := off) g1 g2 g3 (by omega)
      have hck := g4 ((xs.drop off).take k1.length) em w (by simp; omega)
      have hrest := ihf (off + k1.length) k2 hk2 (by omega)
      simp only [List.forIn_cons, Sem.run_bind, hname, ne_eq, not_false_eq_true, if_true, hoff, hp, hck, Result.andThen_ok, Sem.run_pure]
      simpa using hrest
    · exact absurd h2 (by simp)
theorem ckItems {d : Nat} {em : Bool} {w : World} {xs : List Value} {e : TypeId} {ks : List TK} (hk : CkOk P d e ks) : ∀ (k i : Nat), (i + k) * ks.length ≤ xs.length →
    (forIn (List.range' i k) PUnit.unit (fun j (_ : PUnit) => (do
      Instr.checkKey em d e (← part e xs.toArray (j * (← sizeOf e)))
      pure (ForInStep.yield PUnit.unit) : Sem (ForInStep PUnit)))).run P w = .ok PUnit.unit w := by
  obtain ⟨g, g1, g2, g3, g4⟩ := hk
  intro k
  induction k with
  | zero => intro i _; simp
  | succ k ih =>
    intro i hl
    have hmul : i * ks.length + ks.length ≤ xs.length := by
      have : (i + 1) * ks.length ≤ (i + (k + 1)) * ks.length := Nat.mul_le_mul_right _ (by omega)
      rw [Nat.succ_mul] at this
      omega
    have hp := run_partOf (w := w) (xs := xs) (off := i * ks.length) g1 g2 g3 hmul
    have hck := g4 ((xs.drop (i * ks.length)).take ks.length) em w (by simp; omega)
    have hrest := ih (i + 1) (by rw [show i + 1 + k = i + (k + 1) by omega]; exact hl)
    rw [List.range'_succ]
    simp only [List.forIn_cons, Sem.run_bind, sizeP_run g2, Result.andThen_ok, hp, hck, Sem.run_pure]
    exact hrest
theorem check_spec (D : Nat) : ∀ (d : Nat) (t : TypeId) (ks : List TK), plainT P d t = some ks → CkOk P (D + d) t ks := by
  intro d
  induction d with
  | zero => intro t ks h; exact absurd h (by simp [plainT])
  | succ d ih =>
    intro t ks h
    obtain ⟨g, e1, e2, e3, _⟩ := plain_spec (P := P) (fun _ => none) D (d + 1) t ks h
    refine ⟨g, e1, e2, e3, fun xs em w hl => ?_⟩
    rw [show D + (d + 1) = (D + d) + 1 from rfl, Instr.checkKey]
    simp only [plainT] at h
    split at h
    · rename_i hu
      simp [run_underlying hu]
    · rename_i hu
      simp [run_underlying hu]
    · rename_i hu
      simp [run_underlying hu]
    · rename_i fs hu
      have hg : g = true := by
        unfold aggP at e1
        rw [hu] at e1
        injection e1 with e1
        exact e1.symm
      subst hg
      cases hs : P.stoodInHeld t with
      | true => rw [hs] at h; exact absurd h (by simp)
      | false =>
        rw [hs, cond_false] at h
        have := ckFields (P := P) (d := D + d) (em := em) (w := w) (xs := xs) (plainT P d) (sizeP P t) (fun t' ks' e => ih t' ks' e) fs.toList 0 ks h (by omega)
        simp only [Sem.run_bind, run_underlying hu, Result.andThen_ok, valOf, cond_true]
        rw [← Array.forIn_toList]
        simp at this ⊢
        rw [this]
        rfl
    · rename_i n e hu
      have hg : g = true := by
        unfold aggP at e1
        rw [hu] at e1
        injection e1 with e1
        exact e1.symm
      subst hg
      split at h
      · rename_i k1 s m h1 hs hm
        obtain ⟨hc, h2⟩ := cond_some h
        injection h2 with h2
        subst h2
        have := ckItems (P := P) (em := em) (w := w) (xs := xs) (ih e k1 h1) n 0 (by rw [kRep_length] at hl; rw [Nat.zero_add]; omega)
        simp only [Sem.run_bind, run_underlying hu, Result.andThen_ok, valOf, cond_true]
        simp only [Std.Legacy.Range.forIn_eq_forIn_range', Std.Legacy.Range.size, Nat.sub_zero, Nat.add_one_sub_one, Nat.div_one]
        simp at this ⊢
        rw [this]
        rfl
      · exact absurd h (by simp)
    · exact absurd h (by simp)
end
end Go.Proofs.Ytaijmekhfleciaa.Am
