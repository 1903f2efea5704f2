/- Frames as functions: what an operation answers, told by a function on temporaries, so that it can be told by unfolding. -/
import Derived.Test.YtaijmekhfleciaaAmLim
set_option linter.unusedVariables false
set_option linter.unusedSimpArgs false
namespace Go.Proofs.Ytaijmekhfleciaa.Am
open Go
noncomputable section
abbrev Env := Nat → AV
def upd (e : Env) (t : Nat) (v : AV) : Env := fun k => cond (Nat.beq k t) v (e k)
def updO (e : Env) : Option Nat → AV → Env
  | some t, v => upd e t v
  | none, _ => e
def envOf : List AV → Nat → Env → Env
  | [], _, e => e
  | v :: l, n, e => envOf l (n + 1) (upd e n v)
def ev0 : Env := fun _ => und
def evN (e : Env) : MX → AV
  | .t n => e n
  | .c v => v
  | .f n => .r (.v (.f n [] []))
def evsN (e : Env) : List MX → List AV
  | [] => []
  | x :: l => evN e x :: evsN e l
def evCellsN (e : Env) : List (Nat × Nat × MX) → Option (List (Nat × Nat × List AS))
  | [] => some []
  | (o, s, x) :: l =>
    match cellsOf (evN e x), evCellsN e l with
    | some c, some r => some ((o, s, c) :: r)
    | _, _ => none
def ptrsN (e : Env) : List MX → Option (List (Nat × Nat))
  | [] => some []
  | x :: l =>
    match evN e x, ptrsN e l with
    | .r (.v (.p id off)), some r => some ((id, off) :: r)
    | _, _ => none
def bndV (x : AV) (y : Nat) : Option Nat :=
  match asN x with
  | some n => cond (Nat.ble n y) (some n) none
  | none => none
def bndOV (x : Option AV) (y d : Nat) : Option Nat :=
  match x with
  | some x => bndV x y
  | none => some d
def slcV (size id off len : Nat) (cap : Option Nat) (lo hi mx : Option AV) : Option AV :=
  match mx with
  | some m =>
    match bndV m (topOf len cap), hi with
    | some m, some h =>
      match bndV h m with
      | some h =>
        match bndOV lo h 0 with
        | some l => some (.r (.v (.sl id (off + l * size) (h - l) (some (m - l)) size)))
        | none => none
      | none => none
    | _, _ => none
  | none =>
    match bndOV hi (topOf len cap) len with
    | some h =>
      match bndOV lo h 0 with
      | some l => some (.r (.v (.sl id (off + l * size) (h - l) (cap.map (· - l)) size)))
      | none => none
    | none => none
def slc1 (size : Nat) (x : AV) (lo hi mx : Option AV) : Option AV :=
  match x with
  | .r (.v (.sl id off len cap sz)) => cond (Nat.beq sz size) (slcV size id off len cap lo hi mx) none
  | .r (.v .nsl) =>
    match bndOV mx 0 0, bndOV hi 0 0, bndOV lo 0 0, mx.isNone || hi.isSome with
    | some _, some _, some _, true => some (.r (.v .nsl))
    | _, _, _, _ => none
  | _ => none
def slA1 (n size : Nat) (x : AV) (lo hi mx : Option AV) : Option AV :=
  match x with
  | .r (.v (.p id off)) => slcV size id off n (some n) lo hi mx
  | _ => none
def build1 (z : List AS) (c : Option (List (Nat × Nat × List AS))) : Option AV :=
  match c with
  | some l => (fillA z l).map fun cs => .r (.g cs)
  | none => none
def mkf1 (f : Nat) (a c : Option (List (Nat × Nat))) : Option AV :=
  match a, c with
  | some a, some c => some (.r (.v (.f f a c)))
  | _, _ => none
/-- An operation that looks at no memory, on what its operands are. -/
def qN (o : QOp) (e : Env) : Option AV :=
  match o with
  | .mv x => some (evN e x)
  | .pick c a b => pick1 (evN e a) (evN e b) (evN e c)
  | .build z ps => build1 z (evCellsN e ps)
  | .nilck x => nilck1 (evN e x)
  | .int f x y => int2 (iSem f) (evN e x) (evN e y)
  | .sh l x y => sh2 (shSem l) (evN e x) (evN e y)
  | .beq g x y => bool2 g (evN e x) (evN e y)
  | .seq g x y => str2 g (evN e x) (evN e y)
  | .cat x y => cat2 (evN e x) (evN e y)
  | .eqg ks g x y => agg2 ks g (evN e x) (evN e y)
  | .eqn p g x => isNil1 p g (evN e x)
  | .not x => not1 (evN e x)
  | .neg x => neg1 (evN e x)
  | .conv k x => conv1 k (evN e x)
  | .fad o x => fad1 o (evN e x)
  | .iaA l s x i => iaA1 l s (evN e x) (asN (evN e i))
  | .iaS s x i => iaS1 s (evN e x) (asN (evN e i))
  | .ixA l s g x i => ixA1 l s g (evN e x) (asN (evN e i))
  | .ixS x i => ixS1 (evN e x) (asN (evN e i))
  | .fld o s g x => fld1 o s g (evN e x)
  | .ext x n => ext1 n (evN e x)
  | .mkf f a c => mkf1 f (ptrsN e a) (ptrsN e c)
  | .len s x => len1 s (evN e x)
  | .cap x => cap1 (evN e x)
  | .max xs => maxI (evsN e xs)
  | .min xs => minI (evsN e xs)
  | .slc s x lo hi mx => slc1 s (evN e x) (lo.map (evN e)) (hi.map (evN e)) (mx.map (evN e))
  | .slA n s x lo hi mx => slA1 n s (evN e x) (lo.map (evN e)) (hi.map (evN e)) (mx.map (evN e))
  | .bad => none
def box1 (n id : Nat) : Option (List AS) → Option (Blk × AV)
  | some cs => cond (Nat.beq cs.length n) (some (.row true cs, .r (.v (.p id 0)))) none
  | none => none
def bslice1 (len size id : Nat) (z : List AS) : Option (List (Nat × Nat × List AS)) → Option (Blk × AV)
  | some l => (fillA (repl z len) l).map fun cs => (.row true cs, .r (.v (.sl id 0 len (some len) size)))
  | none => none
def mslice1 (size bytes id : Nat) (z : List AS) (l c : AV) : Option (Blk × AV) :=
  match asI l, asI c with
  | some (.i64, a), some (.i64, b) =>
    match natOf a, natOf b with
    | some a, some b => cond (Nat.beq a b && (Nat.ble (bytes * b) 1000000000000 && Nat.ble b 1000000000000)) (some (.row true (repl z b), .r (.v (.sl id 0 a (some b) size)))) none
    | _, _ => none
  | _, _ => none
def nN (o : NOp) (e : Env) (id : Nat) : Option (Blk × AV) :=
  match o with
  | .alloc z => some (.row true z, .r (.v (.p id 0)))
  | .box n x => box1 n id (cellsOf (evN e x))
  | .bslice l s z ps => bslice1 l s id z (evCellsN e ps)
  | .mslice s b z l c => mslice1 s b id z (evN e l) (evN e c)
  | .mmap => some (.map [], .r (.v (.m id)))
def store1 (n : Nat) (a : AV) (x : Option (List AS)) (h : HS) : Option HS :=
  match a, x with
  | .r (.v (.p id off)), some cs => cond (Nat.beq cs.length n) (storeE h id off cs) none
  | _, _ => none
def app1 (size bytes : Nat) (s x : AV) (h : HS) : Option (AV × HS) :=
  match lenOf x with
  | some m =>
    match elems h.get size m x with
    | some new => appE h size bytes s m new
    | none => none
  | none => none
def appz1 (size bytes : Nat) (z : List AS) (s x : AV) (h : HS) : Option (AV × HS) :=
  match asI x with
  | some (.i64, n) =>
    match natOf n with
    | some m => cond (Nat.ble m 1000000000000 && Nat.ble (m * bytes) 1000000000000) (appE h size bytes s m (repl z m)) none
    | none => none
  | _ => none
def cpy1 (size : Nat) (d s : AV) (h : HS) : Option (AV × HS) :=
  match lenOf d, lenOf s with
  | some n, some m =>
    match elems h.get size (Nat.min m n) s with
    | some new => cpyTo h size (Nat.min m n) new d
    | none => none
  | _, _ => none
def clr1 (size : Nat) (z : List AS) (x : AV) (h : HS) : Option (AV × HS) :=
  match x with
  | .r (.v .nsl) => some (und, h)
  | .r (.v (.sl id off n _ sz)) => cond (Nat.beq n 0) (some (und, h)) (cond (Nat.beq sz size) ((storeE h id off (repl z n)).map fun h' => (und, h')) none)
  | _ => none
def lkp1 (ks : List TK) (zero : AS) (m k : AV) (h : HS) : Option (AV × HS) :=
  match m, k with
  | .r (.v (.m id)), .r (.g x) =>
    match h.get id with
    | some (.map es) => cond (Nat.beq x.length ks.length) ((lookE ks zero es x).map fun v => (.r (.v v), h)) none
    | _ => none
  | _, _ => none
def upd1 (ks : List TK) (m k x : AV) (h : HS) : Option (AV × HS) :=
  match m, k, x with
  | .r (.v (.m id)), .r (.g k), .r (.v v) =>
    match h.get id with
    | some (.map es) => cond (Nat.beq k.length ks.length) ((updE ks es k v).map fun es' => (und, h.put id (some (.map es')))) none
    | _ => none
  | _, _, _ => none
/-- Operations that read and write; calls aside. -/
def cN (o : COp) (e : Env) (h : HS) : Option (AV × HS) :=
  match o with
  | .store n a x => (store1 n (evN e a) (cellsOf (evN e x)) h).map fun h' => (und, h')
  | .cals _ _ | .calv _ _ => none
  | .app s b x y => app1 s b (evN e x) (evN e y) h
  | .appz s b z x y => appz1 s b z (evN e x) (evN e y) h
  | .cpy s d x => cpy1 s (evN e d) (evN e x) h
  | .clr s z x => clr1 s z (evN e x) h
  | .lkp ks z m k => lkp1 ks z (evN e m) (evN e k) h
  | .upd ks m k x => upd1 ks (evN e m) (evN e k) (evN e x) h
def wantsN (e : Env) : Option (Nat × Bool) → Bool
  | none => true
  | some p => isB p.2 (e p.1)

end
section
variable {fr : Fr} {e : Env}
theorem ev_N (hf : gets fr = e) (x : MX) : ev fr x = evN e x := by
  subst hf; cases x <;> rfl
theorem evs_N (hf : gets fr = e) : ∀ l : List MX, evs fr l = evsN e l
  | [] => rfl
  | x :: l => by show ev fr x :: evs fr l = _; rw [evs_N hf l, ev_N hf x]; rfl
theorem evCells_N (hf : gets fr = e) : ∀ l, evCells fr l = evCellsN e l
  | [] => rfl
  | (o, s, x) :: l => by simp only [evCells, evCellsN, evCells_N hf l, ev_N hf x]; rfl
theorem ptrs_N (hf : gets fr = e) : ∀ l, ptrs fr l = ptrsN e l
  | [] => rfl
  | x :: l => by simp only [ptrs, ptrsN, ptrs_N hf l, ev_N hf x]; rfl
theorem bnd_N (hf : gets fr = e) (x : MX) (y : Nat) : bnd fr x y = bndV (evN e x) y := by
  simp only [bnd, bndV, ev_N hf x]; rfl
theorem bndO_N (hf : gets fr = e) (x : Option MX) (y d : Nat) : bndO fr x y d = bndOV (x.map (evN e)) y d := by
  cases x with
  | none => rfl
  | some x => exact bnd_N hf x y
theorem slcE_N (hf : gets fr = e) (size id off len : Nat) (cap : Option Nat) (lo hi mx : Option MX) : slcE fr size id off len cap lo hi mx = slcV size id off len cap (lo.map (evN e)) (hi.map (evN e)) (mx.map (evN e)) := by
  cases mx with
  | none =>
    simp only [slcE, slcV, bndO_N hf, Option.map_none]
    rfl
  | some m =>
    cases hi with
    | none =>
      simp only [slcE, slcV, bnd_N hf, Option.map_none, Option.map_some]
      cases bndV (evN e m) (topOf len cap) <;> rfl
    | some h =>
      simp only [slcE, slcV, bnd_N hf, bndO_N hf, Option.map_some]
      cases bndV (evN e m) (topOf len cap) <;> rfl
theorem q_N (hf : gets fr = e) (o : QOp) : qSem o fr = qN o e := by
  cases o with
  | mv x => exact congrArg some (ev_N hf x)
  | pick c a b => show pick1 (ev fr a) (ev fr b) (ev fr c) = _; rw [ev_N hf a, ev_N hf b, ev_N hf c]; rfl
  | build z ps => show qBuild z ps fr = build1 z (evCellsN e ps); simp only [qBuild, build1, evCells_N hf ps]; rfl
  | nilck x => show nilck1 (ev fr x) = _; rw [ev_N hf x]; rfl
  | int f x y => show int2 (iSem f) (ev fr x) (ev fr y) = _; rw [ev_N hf x, ev_N hf y]; rfl
  | sh l x y => show sh2 (shSem l) (ev fr x) (ev fr y) = _; rw [ev_N hf x, ev_N hf y]; rfl
  | beq g x y => show bool2 g (ev fr x) (ev fr y) = _; rw [ev_N hf x, ev_N hf y]; rfl
  | seq g x y => show str2 g (ev fr x) (ev fr y) = _; rw [ev_N hf x, ev_N hf y]; rfl
  | cat x y => show cat2 (ev fr x) (ev fr y) = _; rw [ev_N hf x, ev_N hf y]; rfl
  | eqg ks g x y => show agg2 ks g (ev fr x) (ev fr y) = _; rw [ev_N hf x, ev_N hf y]; rfl
  | eqn p g x => show isNil1 p g (ev fr x) = _; rw [ev_N hf x]; rfl
  | not x => show not1 (ev fr x) = _; rw [ev_N hf x]; rfl
  | neg x => show neg1 (ev fr x) = _; rw [ev_N hf x]; rfl
  | conv k x => show conv1 k (ev fr x) = _; rw [ev_N hf x]; rfl
  | fad o x => show fad1 o (ev fr x) = _; rw [ev_N hf x]; rfl
  | iaA l s x i => show iaA1 l s (ev fr x) (asN (ev fr i)) = _; rw [ev_N hf x, ev_N hf i]; rfl
  | iaS s x i => show iaS1 s (ev fr x) (asN (ev fr i)) = _; rw [ev_N hf x, ev_N hf i]; rfl
  | ixA l s g x i => show ixA1 l s g (ev fr x) (asN (ev fr i)) = _; rw [ev_N hf x, ev_N hf i]; rfl
  | ixS x i => show ixS1 (ev fr x) (asN (ev fr i)) = _; rw [ev_N hf x, ev_N hf i]; rfl
  | fld o s g x => show fld1 o s g (ev fr x) = _; rw [ev_N hf x]; rfl
  | ext x n => show ext1 n (ev fr x) = _; rw [ev_N hf x]; rfl
  | mkf f a c => show qMkf f a c fr = mkf1 f (ptrsN e a) (ptrsN e c); simp only [qMkf, mkf1, ptrs_N hf]; rfl
  | len s x => show len1 s (ev fr x) = _; rw [ev_N hf x]; rfl
  | cap x => show cap1 (ev fr x) = _; rw [ev_N hf x]; rfl
  | max xs => show maxI (evs fr xs) = _; rw [evs_N hf xs]; rfl
  | min xs => show minI (evs fr xs) = _; rw [evs_N hf xs]; rfl
  | slc s x lo hi mx =>
    show qSlc s x lo hi mx fr = slc1 s (evN e x) (lo.map (evN e)) (hi.map (evN e)) (mx.map (evN e))
    simp only [qSlc, slc1, slcE_N hf, bndO_N hf, ev_N hf x, Option.isNone_map, Option.isSome_map]
    rfl
  | slA n s x lo hi mx =>
    show qSlA n s x lo hi mx fr = slA1 n s (evN e x) (lo.map (evN e)) (hi.map (evN e)) (mx.map (evN e))
    simp only [qSlA, slA1, slcE_N hf, ev_N hf x]
    rfl
  | bad => rfl
theorem n_N (hf : gets fr = e) (o : NOp) (id : Nat) : nSem o fr id = nN o e id := by
  cases o with
  | alloc z => rfl
  | box n x =>
    show nBox n x fr id = box1 n id (cellsOf (evN e x))
    simp only [nBox, ev_N hf x]
    cases cellsOf (evN e x) <;> rfl
  | bslice l s z ps =>
    show nBslice l s z ps fr id = bslice1 l s id z (evCellsN e ps)
    simp only [nBslice, evCells_N hf ps]
    cases evCellsN e ps <;> rfl
  | mslice s b z l c =>
    show nMslice s b z l c fr id = mslice1 s b id z (evN e l) (evN e c)
    simp only [nMslice, mslice1, ev_N hf]
    rfl
  | mmap => rfl
theorem c_N (hf : gets fr = e) {call : CallE} {o : COp} {h : HS} {r : AV × HS} (hc : cN o e h = some r) : cSem o call fr h = some r := by
  rw [← hc]
  cases o with
  | store n a x =>
    show cStore n a x call fr h = (store1 n (evN e a) (cellsOf (evN e x)) h).map fun h' => (und, h')
    simp only [cStore, store1, ev_N hf]
    split
    · rename_i id off cs h1 h2
      rw [h1, h2]
      simp only
      cases Nat.beq cs.length n <;> rfl
    · rename_i hn
      split
      · rename_i id off cs h1 h2
        exact absurd h2 (hn _ _ _ h1)
      · rfl
  | cals f xs => cases hc
  | calv x xs => cases hc
  | app s b x y =>
    show cApp s b x y call fr h = app1 s b (evN e x) (evN e y) h
    simp only [cApp, app1, ev_N hf]
    rfl
  | appz s b z x y =>
    show cAppz s b z x y call fr h = appz1 s b z (evN e x) (evN e y) h
    simp only [cAppz, appz1, ev_N hf]
    rfl
  | cpy s d x =>
    show cCpy s d x call fr h = cpy1 s (evN e d) (evN e x) h
    simp only [cCpy, cpy1, ev_N hf]
    rfl
  | clr s z x =>
    show cClr s z x call fr h = clr1 s z (evN e x) h
    simp only [cClr, clr1, ev_N hf]
    rfl
  | lkp ks z m k =>
    show cLkp ks z m k call fr h = lkp1 ks z (evN e m) (evN e k) h
    simp only [cLkp, lkp1, ev_N hf]
    rfl
  | upd ks m k x =>
    show cUpd ks m k x call fr h = upd1 ks (evN e m) (evN e k) (evN e x) h
    simp only [cUpd, upd1, ev_N hf]
    rfl
theorem sets_N (hf : gets fr = e) (t : Nat) (v : AV) : gets (sets fr t v) = upd e t v := by
  funext k
  rw [gets_sets, hf]
  unfold upd
  rw [natBeq]
  by_cases h : k = t
  · rw [if_pos h, decide_eq_true h]; rfl
  · rw [if_neg h, decide_eq_false h]; rfl
theorem putD_N (hf : gets fr = e) (t : Option Nat) (v : AV) : gets (putD fr t v) = updO e t v := by
  cases t with
  | none => exact hf
  | some t => exact sets_N hf t v
theorem wants_N (hf : gets fr = e) (g : Option (Nat × Bool)) : wants fr g = wantsN e g := by
  subst hf; cases g <;> rfl
theorem frOf_N : ∀ (l : List AV) (n : Nat) {fr : Fr} {e : Env}, gets fr = e → gets (frOf l n fr) = envOf l n e
  | [], n, fr, e, hf => hf
  | v :: l, n, fr, e, hf => frOf_N l (n + 1) (sets_N hf n v)
end
end Go.Proofs.Ytaijmekhfleciaa.Am
