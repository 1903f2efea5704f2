/- What an operation answers hangs on the temporaries that it looks at, alone. -/
import Derived.Test.YtaijmekhfleciaaAmMono
set_option linter.unusedVariables false
set_option linter.unusedSimpArgs false
namespace Go.Proofs.Ytaijmekhfleciaa.Am
open Go
section
variable {fr fr' : Fr}
theorem evs_congr : ∀ {l : List MX}, (∀ x ∈ l, ev fr x = ev fr' x) → evs fr l = evs fr' l
  | [], _ => rfl
  | x :: l, h => by
    show ev fr x :: evs fr l = ev fr' x :: evs fr' l
    rw [h x (by simp), evs_congr fun y hy => h y (by simp [hy])]
theorem ptrs_congr : ∀ {l : List MX}, (∀ x ∈ l, ev fr x = ev fr' x) → ptrs fr l = ptrs fr' l
  | [], _ => rfl
  | x :: l, h => by
    have h1 := h x (by simp)
    have h2 := ptrs_congr fun y (hy : y ∈ l) => h y (by simp [hy])
    simp only [ptrs, h1, h2]
theorem evCells_congr : ∀ {l : List (Nat × Nat × MX)}, (∀ x ∈ pX l, ev fr x = ev fr' x) → evCells fr l = evCells fr' l
  | [], _ => rfl
  | (o, s, x) :: l, h => by
    have h1 := h x (by simp [pX])
    have h2 := evCells_congr (l := l) fun y hy => h y (by simp only [pX, List.map_cons]; exact List.mem_cons_of_mem _ hy)
    simp only [evCells, h1, h2]
theorem bnd_congr {x : MX} {top : Nat} (h : ev fr x = ev fr' x) : bnd fr x top = bnd fr' x top := by
  unfold bnd
  rw [h]
theorem bndO_congr {x : Option MX} {top d : Nat} (h : ∀ y ∈ oX x, ev fr y = ev fr' y) : bndO fr x top d = bndO fr' x top d := by
  cases x with
  | none => rfl
  | some x =>
    have := h x (by simp [oX])
    show bnd fr x top = bnd fr' x top
    exact bnd_congr this
theorem slcE_congr {size id off len : Nat} {cap : Option Nat} {lo hi mx : Option MX} (h1 : ∀ y ∈ oX lo, ev fr y = ev fr' y) (h2 : ∀ y ∈ oX hi, ev fr y = ev fr' y) (h3 : ∀ y ∈ oX mx, ev fr y = ev fr' y) :
    slcE fr size id off len cap lo hi mx = slcE fr' size id off len cap lo hi mx := by
  have e1 : ∀ top d, bndO fr lo top d = bndO fr' lo top d := fun _ _ => bndO_congr h1
  have e2 : ∀ top d, bndO fr hi top d = bndO fr' hi top d := fun _ _ => bndO_congr h2
  cases mx with
  | none => simp only [slcE, e1, e2]
  | some m =>
    have e3 := bnd_congr (top := topOf len cap) (h3 m (by simp [oX]))
    cases hi with
    | none =>
      simp only [slcE, e3]
      cases bnd fr' m (topOf len cap) <;> rfl
    | some y =>
      have e4 : ∀ top, bnd fr y top = bnd fr' y top := fun _ => bnd_congr (h2 y (by simp [oX]))
      simp only [slcE, e1, e3]
      cases bnd fr' m (topOf len cap) with
      | none => rfl
      | some m' => simp only [e4]
theorem q_congr {q : QOp} (h : ∀ x ∈ q.xs, ev fr x = ev fr' x) : qSem q fr = qSem q fr' := by
  cases q with
  | bad => rfl
  | build z ps =>
    show qBuild z ps fr = qBuild z ps fr'
    unfold qBuild
    rw [evCells_congr (l := ps) h]
  | mkf f a c =>
    show qMkf f a c fr = qMkf f a c fr'
    unfold qMkf
    rw [ptrs_congr (l := a) fun x hx => h x (by simp [QOp.xs, hx]), ptrs_congr (l := c) fun x hx => h x (by simp [QOp.xs, hx])]
  | max xs =>
    show qMax xs fr = qMax xs fr'
    unfold qMax
    rw [evs_congr (l := xs) h]
  | min xs =>
    show qMin xs fr = qMin xs fr'
    unfold qMin
    rw [evs_congr (l := xs) h]
  | slc size x lo hi mx =>
    show qSlc size x lo hi mx fr = qSlc size x lo hi mx fr'
    have e0 := h x (by simp [QOp.xs])
    have e1 : ∀ y ∈ oX lo, ev fr y = ev fr' y := fun y hy => h y (by simp [QOp.xs, hy])
    have e2 : ∀ y ∈ oX hi, ev fr y = ev fr' y := fun y hy => h y (by simp [QOp.xs, hy])
    have e3 : ∀ y ∈ oX mx, ev fr y = ev fr' y := fun y hy => h y (by simp [QOp.xs, hy])
    unfold qSlc
    rw [e0]
    simp only [slcE_congr e1 e2 e3, bndO_congr e1, bndO_congr e2, bndO_congr e3]
  | slA n size x lo hi mx =>
    show qSlA n size x lo hi mx fr = qSlA n size x lo hi mx fr'
    have e0 := h x (by simp [QOp.xs])
    have e1 : ∀ y ∈ oX lo, ev fr y = ev fr' y := fun y hy => h y (by simp [QOp.xs, hy])
    have e2 : ∀ y ∈ oX hi, ev fr y = ev fr' y := fun y hy => h y (by simp [QOp.xs, hy])
    have e3 : ∀ y ∈ oX mx, ev fr y = ev fr' y := fun y hy => h y (by simp [QOp.xs, hy])
    unfold qSlA
    rw [e0]
    simp only [slcE_congr e1 e2 e3]
  | mv x => show qMv x fr = qMv x fr'; unfold qMv; rw [h x (by simp [QOp.xs])]
  | pick c a b => show qPick c a b fr = qPick c a b fr'; unfold qPick; rw [h c (by simp [QOp.xs]), h a (by simp [QOp.xs]), h b (by simp [QOp.xs])]
  | nilck x => show qNilck x fr = qNilck x fr'; unfold qNilck; rw [h x (by simp [QOp.xs])]
  | int f x y => show qI (iSem f) x y fr = qI (iSem f) x y fr'; unfold qI; rw [h x (by simp [QOp.xs]), h y (by simp [QOp.xs])]
  | sh l x y => show qSh (shSem l) x y fr = qSh (shSem l) x y fr'; unfold qSh; rw [h x (by simp [QOp.xs]), h y (by simp [QOp.xs])]
  | beq g x y => show qBeq g x y fr = qBeq g x y fr'; unfold qBeq; rw [h x (by simp [QOp.xs]), h y (by simp [QOp.xs])]
  | seq g x y => show qSeq g x y fr = qSeq g x y fr'; unfold qSeq; rw [h x (by simp [QOp.xs]), h y (by simp [QOp.xs])]
  | cat x y => show qCat x y fr = qCat x y fr'; unfold qCat; rw [h x (by simp [QOp.xs]), h y (by simp [QOp.xs])]
  | eqg ks g x y => show qEqg ks g x y fr = qEqg ks g x y fr'; unfold qEqg; rw [h x (by simp [QOp.xs]), h y (by simp [QOp.xs])]
  | eqn p g x => show qEqn p g x fr = qEqn p g x fr'; unfold qEqn; rw [h x (by simp [QOp.xs])]
  | not x => show qNot x fr = qNot x fr'; unfold qNot; rw [h x (by simp [QOp.xs])]
  | neg x => show qNeg x fr = qNeg x fr'; unfold qNeg; rw [h x (by simp [QOp.xs])]
  | conv k x => show qConv k x fr = qConv k x fr'; unfold qConv; rw [h x (by simp [QOp.xs])]
  | fad o x => show qFad o x fr = qFad o x fr'; unfold qFad; rw [h x (by simp [QOp.xs])]
  | iaA l s x y => show qIaA l s x y fr = qIaA l s x y fr'; unfold qIaA; rw [h x (by simp [QOp.xs]), h y (by simp [QOp.xs])]
  | iaS s x y => show qIaS s x y fr = qIaS s x y fr'; unfold qIaS; rw [h x (by simp [QOp.xs]), h y (by simp [QOp.xs])]
  | ixA l s g x y => show qIxA l s g x y fr = qIxA l s g x y fr'; unfold qIxA; rw [h x (by simp [QOp.xs]), h y (by simp [QOp.xs])]
  | ixS x y => show qIxS x y fr = qIxS x y fr'; unfold qIxS; rw [h x (by simp [QOp.xs]), h y (by simp [QOp.xs])]
  | fld o s g x => show qFld o s g x fr = qFld o s g x fr'; unfold qFld; rw [h x (by simp [QOp.xs])]
  | ext x n => show qExt x n fr = qExt x n fr'; unfold qExt; rw [h x (by simp [QOp.xs])]
  | len s x => show qLen s x fr = qLen s x fr'; unfold qLen; rw [h x (by simp [QOp.xs])]
  | cap x => show qCap x fr = qCap x fr'; unfold qCap; rw [h x (by simp [QOp.xs])]
theorem n_congr {o : NOp} {id : Nat} (h : ∀ x ∈ o.xs, ev fr x = ev fr' x) : nSem o fr id = nSem o fr' id := by
  cases o with
  | alloc z => rfl
  | mmap => rfl
  | box n x => show nBox n x fr id = nBox n x fr' id; unfold nBox; rw [h x (by simp [NOp.xs])]
  | bslice l s z ps => show nBslice l s z ps fr id = nBslice l s z ps fr' id; unfold nBslice; rw [evCells_congr (l := ps) h]
  | mslice s b z l c => show nMslice s b z l c fr id = nMslice s b z l c fr' id; unfold nMslice; rw [h l (by simp [NOp.xs]), h c (by simp [NOp.xs])]
theorem c_congr {o : COp} {call : CallE} {hs : HS} (h : ∀ x ∈ o.xs, ev fr x = ev fr' x) : cSem o call fr hs = cSem o call fr' hs := by
  cases o with
  | store n a x => show cStore n a x call fr hs = cStore n a x call fr' hs; unfold cStore; rw [h a (by simp [COp.xs]), h x (by simp [COp.xs])]
  | cals f xs => show cCalS f xs call fr hs = cCalS f xs call fr' hs; unfold cCalS; rw [evs_congr (l := xs) h]
  | calv x xs => show cCalV x xs call fr hs = cCalV x xs call fr' hs; unfold cCalV; rw [h x (by simp [COp.xs]), evs_congr (l := xs) fun y hy => h y (by simp [COp.xs, hy])]
  | app s b x y => show cApp s b x y call fr hs = cApp s b x y call fr' hs; unfold cApp; rw [h x (by simp [COp.xs]), h y (by simp [COp.xs])]
  | appz s b z x y => show cAppz s b z x y call fr hs = cAppz s b z x y call fr' hs; unfold cAppz; rw [h x (by simp [COp.xs]), h y (by simp [COp.xs])]
  | cpy s x y => show cCpy s x y call fr hs = cCpy s x y call fr' hs; unfold cCpy; rw [h x (by simp [COp.xs]), h y (by simp [COp.xs])]
  | clr s z x => show cClr s z x call fr hs = cClr s z x call fr' hs; unfold cClr; rw [h x (by simp [COp.xs])]
  | lkp ks z x y => show cLkp ks z x y call fr hs = cLkp ks z x y call fr' hs; unfold cLkp; rw [h x (by simp [COp.xs]), h y (by simp [COp.xs])]
  | upd ks x y z => show cUpd ks x y z call fr hs = cUpd ks x y z call fr' hs; unfold cUpd; rw [h x (by simp [COp.xs]), h y (by simp [COp.xs]), h z (by simp [COp.xs])]
theorem ev_congr {x : MX} (h : ∀ t ∈ x.tmps, gets fr t = gets fr' t) : ev fr x = ev fr' x := by
  cases x with
  | t n => exact h n (by simp [MX.tmps])
  | c v => rfl
  | f n => rfl
theorem xs_congr {m : MOr} (h : ∀ t ∈ m.looks, gets fr t = gets fr' t) : ∀ x ∈ m.op.xs, ev fr x = ev fr' x :=
  fun x hx => ev_congr fun t ht => h t (by unfold MOr.looks; rw [List.mem_append]; exact .inl (List.mem_flatMap.2 ⟨x, hx, ht⟩))
theorem wants_congr {m : MOr} (h : ∀ t ∈ m.looks, gets fr t = gets fr' t) : wants fr m.guard = wants fr' m.guard := by
  unfold wants
  cases hg : m.guard with
  | none => rfl
  | some p =>
    have := h p.1 (by unfold MOr.looks; rw [List.mem_append, hg]; exact .inr (by simp))
    simp only [this]
end
end Go.Proofs.Ytaijmekhfleciaa.Am
