/- Definitions of a small deterministic machine ('Am') over the loaded code: values with abstract block numbers, a heap without capacities, an op language that Code is compiled to, and its evaluator by fuel. No statement is proved here. -/
import Derived.Calls
import Derived.Orders
import Derived.LoopN
import Derived.Laws.Sem
import Derived.Laws.World
import Derived.Laws.Cells
import Derived.Laws.Rows
set_option linter.unusedVariables false
set_option linter.unusedSimpArgs false
namespace Go.Proofs.Ytaijmekhfleciaa.Am
open Go

/-- A cell's value. sl: block, offset in cells, length, capacity where it is known, cells of an element. -/
inductive AS where
  | b (x : Bool)
  | i (k : IntKind) (n : Int)
  | s (x : ByteArray)
  | p (id off : Nat)
  | np
  | sl (id off len : Nat) (cap : Option Nat) (sz : Nat)
  | nsl
  | f (fn : Nat) (first caps : List (Nat × Nat))
  | nf
  | ni
  | m (id : Nat)
  | nm
inductive AR where
  | v (a : AS)
  | g (l : List AS)
inductive AV where
  | r (x : AR)
  | t (l : List AR)
instance : Inhabited AS := ⟨.np⟩
instance : Inhabited AR := ⟨.v .np⟩
instance : Inhabited AV := ⟨.t []⟩
def und : AV := .t []
def AR.cells : AR → List AS
  | .v a => [a]
  | .g l => l
def vb (x : Bool) : AV := .r (.v (.b x))
def vi (n : Int) : AV := .r (.v (.i .i64 n))

def kindEq : IntKind → IntKind → Bool
  | .i8, .i8 | .i16, .i16 | .i32, .i32 | .i64, .i64 | .u8, .u8 | .u16, .u16 | .u32, .u32 | .u64, .u64 => true
  | _, _ => false
def intEq : Int → Int → Bool
  | .ofNat a, .ofNat b => Nat.beq a b
  | .negSucc a, .negSucc b => Nat.beq a b
  | _, _ => false
def pairsEq : List (Nat × Nat) → List (Nat × Nat) → Bool
  | [], [] => true
  | (a, b) :: l, (c, d) :: m => Nat.beq a c && (Nat.beq b d && pairsEq l m)
  | _, _ => false
def optEq : Option Nat → Option Nat → Bool
  | none, none => true
  | some a, some b => Nat.beq a b
  | _, _ => false
/-- The same value, as far as that is told. -/
def AS.same : AS → AS → Bool
  | .b x, .b y => x == y
  | .i k n, .i k' n' => kindEq k k' && intEq n n'
  | .p a o, .p a' o' => Nat.beq a a' && Nat.beq o o'
  | .np, .np | .nsl, .nsl | .nf, .nf | .ni, .ni | .nm, .nm => true
  | .sl a o l c z, .sl a' o' l' c' z' => Nat.beq a a' && (Nat.beq o o' && (Nat.beq l l' && (optEq c c' && Nat.beq z z')))
  | .f n a c, .f n' a' c' => Nat.beq n n' && (pairsEq a a' && pairsEq c c')
  | .m a, .m a' => Nat.beq a a'
  | .s x, .s y => decide (x = y)
  | _, _ => false
def listSame : List AS → List AS → Bool
  | [], [] => true
  | a :: l, b :: m => a.same b && listSame l m
  | _, _ => false
def AR.same : AR → AR → Bool
  | .v a, .v b => a.same b
  | .g l, .g m => listSame l m
  | _, _ => false
def AV.same : AV → AV → Bool
  | .r x, .r y => x.same y
  | _, _ => false

/-! The heap -/
inductive Blk where
  | row (own : Bool) (cells : List AS)
  | map (es : List (List AS × AS))
inductive Tr (α : Type) where
  | nil
  | nd (v : Option α) (l r : Tr α)
/-- Key 0 lies at the root, an odd key k to the left (k / 2), another one to the right (k / 2 - 1). -/
noncomputable def Tr.get {α : Type} (t : Tr α) : Nat → Option α :=
  Tr.rec (motive := fun _ => Nat → Option α) (fun _ => none) (fun v _ _ l r k => cond (Nat.beq k 0) v (cond (Nat.beq (k % 2) 1) (l (k / 2)) (r (k / 2 - 1)))) t
def setNil {α : Type} (ih : Tr α → Nat → Option α → Tr α) (k : Nat) (x : Option α) : Tr α :=
  cond (Nat.beq k 0) (.nd x .nil .nil) (cond (Nat.beq (k % 2) 1) (.nd none (ih .nil (k / 2) x) .nil) (.nd none .nil (ih .nil (k / 2 - 1) x)))
def setNd {α : Type} (ih : Tr α → Nat → Option α → Tr α) (k : Nat) (x : Option α) (v : Option α) (l r : Tr α) : Tr α :=
  cond (Nat.beq k 0) (.nd x l r) (cond (Nat.beq (k % 2) 1) (.nd v (ih l (k / 2) x) r) (.nd v l (ih r (k / 2 - 1) x)))
noncomputable def Tr.setF {α : Type} (n : Nat) : Tr α → Nat → Option α → Tr α :=
  Nat.rec (motive := fun _ => Tr α → Nat → Option α → Tr α) (fun t _ _ => t)
    (fun _ ih t k x => Tr.casesOn (motive := fun _ => Tr α) t (setNil ih k x) (fun v l r => setNd ih k x v l r)) n
noncomputable def Tr.set {α : Type} (t : Tr α) (k : Nat) (x : Option α) : Tr α := Tr.setF (k + 1) t k x
structure HS where
  t : Tr Blk
  nx : Nat
noncomputable def HS.get (h : HS) (id : Nat) : Option Blk := h.t.get id
noncomputable def HS.put (h : HS) (id : Nat) (x : Option Blk) : HS := { h with t := h.t.set id x }
noncomputable def HS.new (h : HS) (b : Blk) : HS := { t := h.t.set h.nx (some b), nx := h.nx + 1 }

/-! The op language -/
inductive MX where
  | t (n : Nat)
  | c (v : AV)
  | f (n : Nat)
abbrev Fr := Tr AV
abbrev CallE := Nat → List AV → HS → Option (AV × HS)
inductive TK where
  | i | b | s
inductive IFun where
  | add | sub | mul | quo | rem | and | or | eql | neq | lss | leq | gtr | geq
/-- Operations that look at no memory. -/
inductive QOp where
  | mv (x : MX)
  | pick (c a b : MX)
  | build (z : List AS) (ps : List (Nat × Nat × MX))
  | nilck (x : MX)
  | int (f : IFun) (x y : MX)
  | sh (left : Bool) (x y : MX)
  | beq (neg : Bool) (x y : MX)
  | seq (neg : Bool) (x y : MX)
  | cat (x y : MX)
  | eqg (ks : List TK) (neg : Bool) (x y : MX)
  | eqn (ptr neg : Bool) (x : MX)
  | not (x : MX)
  | neg (x : MX)
  | conv (k : IntKind) (x : MX)
  | fad (off : Nat) (x : MX)
  | iaA (len size : Nat) (x i : MX)
  | iaS (size : Nat) (x i : MX)
  | ixA (len size : Nat) (agg : Bool) (x i : MX)
  | ixS (x i : MX)
  | fld (off size : Nat) (agg : Bool) (x : MX)
  | ext (x : MX) (n : Nat)
  | mkf (f : Nat) (first caps : List MX)
  | len (str : Bool) (x : MX)
  | cap (x : MX)
  | max (xs : List MX)
  | min (xs : List MX)
  | slc (size : Nat) (x : MX) (lo hi mx : Option MX)
  | slA (n size : Nat) (x : MX) (lo hi mx : Option MX)
  | bad
/-- Operations that make a block, and look at no memory. -/
inductive NOp where
  | alloc (z : List AS)
  | box (n : Nat) (x : MX)
  | bslice (len size : Nat) (z : List AS) (ps : List (Nat × Nat × MX))
  | mslice (size bytes : Nat) (z : List AS) (l c : MX)
  | mmap
/-- Operations that read and write, and calls. -/
inductive COp where
  | store (n : Nat) (a x : MX)
  | cals (f : Nat) (xs : List MX)
  | calv (x : MX) (xs : List MX)
  | app (size bytes : Nat) (s x : MX)
  | appz (size bytes : Nat) (z : List AS) (s x : MX)
  | cpy (size : Nat) (d s : MX)
  | clr (size : Nat) (z : List AS) (x : MX)
  | lkp (ks : List TK) (zero : AS) (m k : MX)
  | upd (ks : List TK) (m k x : MX)
inductive MOp where
  | q (o : QOp)
  | l (n : Option Nat) (a : MX)
  | n (o : NOp)
  | c (o : COp)
structure MOr where
  dst : Option Nat
  op : MOp
  guard : Option (Nat × Bool)
/-- What a load must be held against: operations ahead of it (false) or behind it (true) that may come in another order; blocks made beside it. -/
structure Chk where
  i : Nat
  cs : List Nat
  ns : List Nat
inductive MC where
  | skip
  | reg (l : List MOr)
  | drw (l : List MOr) (k : List Chk)
  | seq (a b : MC)
  | cond (c : MX) (a b : MC)
  | blk (id : Nat) (b : MC)
  | exit (id : Nat)
  | loop (b : MC)
  | ret
  | bad
inductive MRes where
  | tmp (t : Nat)
  | cell (a : Nat) (n : Option Nat)
structure MFun where
  nt : Nat
  res : List MRes
  body : MC

/-! Evaluation -/
noncomputable def gets (fr : Fr) (n : Nat) : AV := Option.rec (motive := fun _ => AV) und (fun x => x) (fr.get n)
noncomputable def sets (fr : Fr) (n : Nat) (v : AV) : Fr := fr.set n (some v)
noncomputable def putD (fr : Fr) (d : Option Nat) (v : AV) : Fr := Option.rec (motive := fun _ => Fr) fr (fun t => sets fr t v) d
noncomputable def ev (fr : Fr) (x : MX) : AV := MX.casesOn (motive := fun _ => AV) x (gets fr) (fun v => v) (fun n => .r (.v (.f n [] [])))
noncomputable def evs (fr : Fr) (l : List MX) : List AV := List.rec (motive := fun _ => List AV) [] (fun x _ r => ev fr x :: r) l
def asI : AV → Option (IntKind × Int)
  | .r (.v (.i k n)) => some (k, n)
  | _ => none
/-- n as a natural number, if it isn't below 0. -/
def natOf : Int → Option Nat
  | .ofNat n => some n
  | .negSucc _ => none
def asN (v : AV) : Option Nat :=
  match asI v with
  | some (_, n) => natOf n
  | none => none
noncomputable def dropN (n : Nat) : List AS → List AS :=
  Nat.rec (motive := fun _ => List AS → List AS) (fun l => l) (fun _ ih l => List.casesOn (motive := fun _ => List AS) l [] (fun _ t => ih t)) n
noncomputable def takeX (n : Nat) : List AS → Option (List AS) :=
  Nat.rec (motive := fun _ => List AS → Option (List AS)) (fun _ => some []) (fun _ ih l => List.casesOn (motive := fun _ => Option (List AS)) l none (fun a t => (ih t).map (a :: ·))) n
/-- Cells off .. off + n of a list; none: they aren't all there. -/
noncomputable def seg (l : List AS) (off n : Nat) : Option (List AS) := takeX n (dropN off l)
noncomputable def over (xs : List AS) : List AS → Option (List AS) :=
  List.rec (motive := fun _ => List AS → Option (List AS)) (fun l => some l) (fun x _ ih l => List.casesOn (motive := fun _ => Option (List AS)) l none (fun _ t => (ih t).map (x :: ·))) xs
/-- The cells from off on written; none: there aren't so many. -/
noncomputable def splice (l : List AS) (off : Nat) (xs : List AS) : Option (List AS) :=
  Nat.rec (motive := fun _ => List AS → Option (List AS)) (fun l => over xs l) (fun _ ih l => List.casesOn (motive := fun _ => Option (List AS)) l none (fun a t => (ih t).map (a :: ·))) off l
noncomputable def getAt (l : List AS) (n : Nat) : Option AS :=
  Nat.rec (motive := fun _ => List AS → Option AS) (fun l => List.casesOn (motive := fun _ => Option AS) l none (fun a _ => some a)) (fun _ ih l => List.casesOn (motive := fun _ => Option AS) l none (fun _ t => ih t)) n l
noncomputable def partOf (agg : Bool) (l : List AS) (off n : Nat) : Option AV :=
  cond agg ((seg l off n).map fun x => .r (.g x)) ((getAt l off).map fun x => .r (.v x))
noncomputable def repl (z : List AS) (n : Nat) : List AS := Nat.rec (motive := fun _ => List AS) [] (fun _ r => z ++ r) n
/-- Parts written into a value's cells: offset, size, the part's cells. -/
noncomputable def fillA (z : List AS) : List (Nat × Nat × List AS) → Option (List AS)
  | [] => some z
  | (off, size, p) :: rest => cond (Nat.beq p.length size) (match splice z off p with
      | some z' => fillA z' rest
      | none => none) none
def cellsOf : AV → Option (List AS)
  | .r x => some x.cells
  | .t _ => none
noncomputable def evCells (fr : Fr) : List (Nat × Nat × MX) → Option (List (Nat × Nat × List AS))
  | [] => some []
  | (o, s, x) :: l =>
    match cellsOf (ev fr x), evCells fr l with
    | some c, some r => some ((o, s, c) :: r)
    | _, _ => none

/-! Operations that look at no memory -/
noncomputable def qMv (x : MX) (fr : Fr) : Option AV := some (ev fr x)
def pick1 (a b : AV) : AV → Option AV
  | .r (.v (.b true)) => some a
  | .r (.v (.b false)) => some b
  | _ => none
noncomputable def qPick (c a b : MX) (fr : Fr) : Option AV := pick1 (ev fr a) (ev fr b) (ev fr c)
noncomputable def qBuild (z : List AS) (ps : List (Nat × Nat × MX)) (fr : Fr) : Option AV :=
  match evCells fr ps with
  | some l => (fillA z l).map fun cs => .r (.g cs)
  | none => none
def nilck1 : AV → Option AV
  | .r (.v (.p id off)) => some (.r (.v (.p id off)))
  | .r (.v (.f n a c)) => some (.r (.v (.f n a c)))
  | _ => none
noncomputable def qNilck (x : MX) (fr : Fr) : Option AV := nilck1 (ev fr x)
/-- Two whole numbers of one kind. -/
def int2 (f : IntKind → Int → Int → Option AS) : AV → AV → Option AV
  | .r (.v (.i k a)), .r (.v (.i k' b)) => cond (kindEq k k') ((f k a b).map fun z => .r (.v z)) none
  | _, _ => none
def fAdd (k : IntKind) (a b : Int) : Option AS := some (.i k (k.wrap (a + b)))
def fSub (k : IntKind) (a b : Int) : Option AS := some (.i k (k.wrap (a - b)))
def fMul (k : IntKind) (a b : Int) : Option AS := some (.i k (k.wrap (a * b)))
def fQuo (k : IntKind) (a b : Int) : Option AS := cond (intEq b 0) none (some (.i k (k.wrap (a.tdiv b))))
def fRem (k : IntKind) (a b : Int) : Option AS := cond (intEq b 0) none (some (.i k (a.tmod b)))
def fAnd (k : IntKind) (a b : Int) : Option AS := some (.i k (k.wrap (BitVec.ofInt k.bits a &&& BitVec.ofInt k.bits b).toNat))
def fOr (k : IntKind) (a b : Int) : Option AS := some (.i k (k.wrap (BitVec.ofInt k.bits a ||| BitVec.ofInt k.bits b).toNat))
def fEql (_ : IntKind) (a b : Int) : Option AS := some (.b (a == b))
def fNeq (_ : IntKind) (a b : Int) : Option AS := some (.b (a != b))
def fLss (_ : IntKind) (a b : Int) : Option AS := some (.b (decide (a < b)))
def fLeq (_ : IntKind) (a b : Int) : Option AS := some (.b (decide (a ≤ b)))
def fGtr (_ : IntKind) (a b : Int) : Option AS := some (.b (decide (a > b)))
def fGeq (_ : IntKind) (a b : Int) : Option AS := some (.b (decide (a ≥ b)))
noncomputable def qI (f : IntKind → Int → Int → Option AS) (x y : MX) (fr : Fr) : Option AV := int2 f (ev fr x) (ev fr y)
def shlN (k : IntKind) (a b : Int) : Option AS := (natOf b).map fun n => .i k (k.wrap (a * 2 ^ (min n k.bits)))
def shrN (k : IntKind) (a b : Int) : Option AS := (natOf b).map fun n => .i k (a.fdiv (2 ^ (min n k.bits)))
def sh2 (f : IntKind → Int → Int → Option AS) : AV → AV → Option AV
  | .r (.v (.i k a)), .r (.v (.i _ b)) => (f k a b).map fun z => .r (.v z)
  | _, _ => none
noncomputable def qSh (f : IntKind → Int → Int → Option AS) (x y : MX) (fr : Fr) : Option AV := sh2 f (ev fr x) (ev fr y)
def bool2 (neg : Bool) : AV → AV → Option AV
  | .r (.v (.b a)), .r (.v (.b b)) => some (vb ((a == b) != neg))
  | _, _ => none
noncomputable def qBeq (neg : Bool) (x y : MX) (fr : Fr) : Option AV := bool2 neg (ev fr x) (ev fr y)
def str2 (neg : Bool) : AV → AV → Option AV
  | .r (.v (.s a)), .r (.v (.s b)) => some (vb ((a.toList == b.toList) != neg))
  | _, _ => none
noncomputable def qSeq (neg : Bool) (x y : MX) (fr : Fr) : Option AV := str2 neg (ev fr x) (ev fr y)
def cat2 : AV → AV → Option AV
  | .r (.v (.s a)), .r (.v (.s b)) => cond (Nat.ble (a.size + b.size) 1000000000) (some (.r (.v (.s (a ++ b))))) none
  | _, _ => none
noncomputable def qCat (x y : MX) (fr : Fr) : Option AV := cat2 (ev fr x) (ev fr y)
/-- Two cells of one kind are told apart. -/
def eqCell : TK → AS → AS → Option Bool
  | .i, .i k a, .i k' b => cond (kindEq k k') (some (intEq a b)) none
  | .b, .b a, .b b => some (a == b)
  | .s, .s a, .s b => some (a == b)
  | _, _, _ => none
def eqCells : List TK → List AS → List AS → Option Bool
  | [], [], [] => some true
  | t :: ts, a :: l, b :: m =>
    match eqCell t a b, eqCells ts l m with
    | some x, some y => some (x && y)
    | _, _ => none
  | _, _, _ => none
def agg2 (ks : List TK) (neg : Bool) : AV → AV → Option AV
  | .r (.g a), .r (.g b) => (eqCells ks a b).map fun t => vb (t != neg)
  | _, _ => none
noncomputable def qEqg (ks : List TK) (neg : Bool) (x y : MX) (fr : Fr) : Option AV := agg2 ks neg (ev fr x) (ev fr y)
def isNil1 (ptr neg : Bool) : AV → Option AV
  | .r (.v .nsl) => cond ptr none (some (vb (true != neg)))
  | .r (.v (.sl ..)) => cond ptr none (some (vb (false != neg)))
  | .r (.v .np) => cond ptr (some (vb (true != neg))) none
  | .r (.v (.p ..)) => cond ptr (some (vb (false != neg))) none
  | _ => none
noncomputable def qEqn (ptr neg : Bool) (x : MX) (fr : Fr) : Option AV := isNil1 ptr neg (ev fr x)
def not1 : AV → Option AV
  | .r (.v (.b a)) => some (vb (!a))
  | _ => none
noncomputable def qNot (x : MX) (fr : Fr) : Option AV := not1 (ev fr x)
def neg1 : AV → Option AV
  | .r (.v (.i k n)) => some (.r (.v (.i k (k.wrap (0 - n)))))
  | _ => none
noncomputable def qNeg (x : MX) (fr : Fr) : Option AV := neg1 (ev fr x)
def conv1 (k : IntKind) : AV → Option AV
  | .r (.v (.i _ n)) => some (.r (.v (.i k (k.wrap n))))
  | _ => none
noncomputable def qConv (k : IntKind) (x : MX) (fr : Fr) : Option AV := conv1 k (ev fr x)
def fad1 (off : Nat) : AV → Option AV
  | .r (.v (.p id o)) => some (.r (.v (.p id (o + off))))
  | _ => none
noncomputable def qFad (off : Nat) (x : MX) (fr : Fr) : Option AV := fad1 off (ev fr x)
def iaA1 (len size : Nat) : AV → Option Nat → Option AV
  | .r (.v (.p id o)), some j => cond (Nat.blt j len) (some (.r (.v (.p id (o + j * size))))) none
  | _, _ => none
noncomputable def qIaA (len size : Nat) (x i : MX) (fr : Fr) : Option AV := iaA1 len size (ev fr x) (asN (ev fr i))
def iaS1 (size : Nat) : AV → Option Nat → Option AV
  | .r (.v (.sl id o len _ sz)), some j => cond (Nat.blt j len) (cond (Nat.beq sz size) (some (.r (.v (.p id (o + j * size))))) none) none
  | _, _ => none
noncomputable def qIaS (size : Nat) (x i : MX) (fr : Fr) : Option AV := iaS1 size (ev fr x) (asN (ev fr i))
noncomputable def ixA1 (len size : Nat) (agg : Bool) (x : AV) (j : Option Nat) : Option AV :=
  match x, j with
  | .r (.g cs), some j => cond (Nat.blt j len) (partOf agg cs (j * size) size) none
  | _, _ => none
noncomputable def qIxA (len size : Nat) (agg : Bool) (x i : MX) (fr : Fr) : Option AV := ixA1 len size agg (ev fr x) (asN (ev fr i))
def ixS1 : AV → Option Nat → Option AV
  | .r (.v (.s b)), some j => (b.data[j]?).map fun c => .r (.v (.i .u8 c.toNat))
  | _, _ => none
noncomputable def qIxS (x i : MX) (fr : Fr) : Option AV := ixS1 (ev fr x) (asN (ev fr i))
noncomputable def fld1 (off size : Nat) (agg : Bool) (x : AV) : Option AV :=
  match x with
  | .r (.g cs) => partOf agg cs off size
  | _ => none
noncomputable def qFld (off size : Nat) (agg : Bool) (x : MX) (fr : Fr) : Option AV := fld1 off size agg (ev fr x)
def ext1 (n : Nat) : AV → Option AV
  | .t l => (l[n]?).map .r
  | _ => none
noncomputable def qExt (x : MX) (n : Nat) (fr : Fr) : Option AV := ext1 n (ev fr x)
noncomputable def ptrs (fr : Fr) : List MX → Option (List (Nat × Nat))
  | [] => some []
  | x :: l =>
    match ev fr x, ptrs fr l with
    | .r (.v (.p id off)), some r => some ((id, off) :: r)
    | _, _ => none
noncomputable def qMkf (f : Nat) (first caps : List MX) (fr : Fr) : Option AV :=
  match ptrs fr first, ptrs fr caps with
  | some a, some c => some (.r (.v (.f f a c)))
  | _, _ => none
def len1 (str : Bool) : AV → Option AV
  | .r (.v (.sl _ _ n _ _)) => cond str none (some (vi n))
  | .r (.v .nsl) => cond str none (some (vi 0))
  | .r (.v (.s b)) => cond str (some (vi b.size)) none
  | _ => none
noncomputable def qLen (str : Bool) (x : MX) (fr : Fr) : Option AV := len1 str (ev fr x)
def cap1 : AV → Option AV
  | .r (.v (.sl _ _ _ (some c) _)) => some (vi c)
  | .r (.v .nsl) => some (vi 0)
  | _ => none
noncomputable def qCap (x : MX) (fr : Fr) : Option AV := cap1 (ev fr x)
def maxGo (k : IntKind) : Int → List AV → Option AV
  | a, [] => some (.r (.v (.i k a)))
  | a, .r (.v (.i _ b)) :: l => maxGo k (if b > a then b else a) l
  | _, _ => none
def maxI : List AV → Option AV
  | .r (.v (.i k a)) :: l => maxGo k a l
  | _ => none
noncomputable def qMax (xs : List MX) (fr : Fr) : Option AV := maxI (evs fr xs)
def minGo (k : IntKind) : Int → List AV → Option AV
  | a, [] => some (.r (.v (.i k a)))
  | a, .r (.v (.i _ b)) :: l => minGo k (if b < a then b else a) l
  | _, _ => none
def minI : List AV → Option AV
  | .r (.v (.i k a)) :: l => minGo k a l
  | _ => none
noncomputable def qMin (xs : List MX) (fr : Fr) : Option AV := minI (evs fr xs)
/-- A slice's bound: at most y. -/
noncomputable def bnd (fr : Fr) (x : MX) (y : Nat) : Option Nat :=
  match asN (ev fr x) with
  | some n => cond (Nat.ble n y) (some n) none
  | none => none
noncomputable def bndO (fr : Fr) (x : Option MX) (y d : Nat) : Option Nat :=
  match x with
  | some x => bnd fr x y
  | none => some d
def topOf (len : Nat) : Option Nat → Nat
  | some c => c
  | none => len
/-- Of a slice (or an array: its capacity is known) of elements of so many cells. -/
noncomputable def slcE (fr : Fr) (size id off len : Nat) (cap : Option Nat) (lo hi mx : Option MX) : Option AV :=
  match mx with
  | some m =>
    match bnd fr m (topOf len cap), hi with
    | some m, some h =>
      match bnd fr h m with
      | some h =>
        match bndO fr lo h 0 with
        | some l => some (.r (.v (.sl id (off + l * size) (h - l) (some (m - l)) size)))
        | none => none
      | none => none
    | _, _ => none
  | none =>
    match bndO fr hi (topOf len cap) len with
    | some h =>
      match bndO fr lo h 0 with
      | some l => some (.r (.v (.sl id (off + l * size) (h - l) (cap.map (· - l)) size)))
      | none => none
    | none => none
noncomputable def qSlc (size : Nat) (x : MX) (lo hi mx : Option MX) (fr : Fr) : Option AV :=
  match ev fr x with
  | .r (.v (.sl id off len cap sz)) => cond (Nat.beq sz size) (slcE fr size id off len cap lo hi mx) none
  | .r (.v .nsl) =>
    match bndO fr mx 0 0, bndO fr hi 0 0, bndO fr lo 0 0, mx.isNone || hi.isSome with
    | some _, some _, some _, true => some (.r (.v .nsl))
    | _, _, _, _ => none
  | _ => none
noncomputable def qSlA (n size : Nat) (x : MX) (lo hi mx : Option MX) (fr : Fr) : Option AV :=
  match ev fr x with
  | .r (.v (.p id off)) => slcE fr size id off n (some n) lo hi mx
  | _ => none

noncomputable def loadB (n : Option Nat) (off : Nat) : Option Blk → Option AV
  | some (.row _ cs) =>
    match n with
    | some k => (seg cs off k).map fun x => .r (.g x)
    | none => (getAt cs off).map fun x => .r (.v x)
  | _ => none
noncomputable def loadG (g : Nat → Option Blk) (n : Option Nat) (a : AV) : Option AV :=
  match a with
  | .r (.v (.p id off)) => loadB n off (g id)
  | _ => none

/-! Operations that make a block -/
def nAlloc (z : List AS) (_ : Fr) (id : Nat) : Option (Blk × AV) := some (.row true z, .r (.v (.p id 0)))
noncomputable def nBox (n : Nat) (x : MX) (fr : Fr) (id : Nat) : Option (Blk × AV) :=
  match cellsOf (ev fr x) with
  | some cs => cond (Nat.beq cs.length n) (some (.row true cs, .r (.v (.p id 0)))) none
  | none => none
noncomputable def nBslice (len size : Nat) (z : List AS) (ps : List (Nat × Nat × MX)) (fr : Fr) (id : Nat) : Option (Blk × AV) :=
  match evCells fr ps with
  | some l => (fillA (repl z len) l).map fun cs => (.row true cs, .r (.v (.sl id 0 len (some len) size)))
  | none => none
noncomputable def nMslice (size bytes : Nat) (z : List AS) (l c : MX) (fr : Fr) (id : Nat) : Option (Blk × AV) :=
  match asI (ev fr l), asI (ev fr c) with
  | some (.i64, a), some (.i64, b) =>
    match natOf a, natOf b with
    | some a, some b => cond (Nat.beq a b && (Nat.ble (bytes * b) 1000000000000 && Nat.ble b 1000000000000)) (some (.row true (repl z b), .r (.v (.sl id 0 a (some b) size)))) none
    | _, _ => none
  | _, _ => none
def nMap (_ : Fr) (id : Nat) : Option (Blk × AV) := some (.map [], .r (.v (.m id)))

/-! Operations that read and write, and calls -/
noncomputable def storeE (h : HS) (id off : Nat) (xs : List AS) : Option HS :=
  match h.get id with
  | some (.row true cs) => (splice cs off xs).map fun cs' => h.put id (some (.row true cs'))
  | _ => none
noncomputable def cStore (n : Nat) (a x : MX) (_ : CallE) (fr : Fr) (h : HS) : Option (AV × HS) :=
  match ev fr a, cellsOf (ev fr x) with
  | .r (.v (.p id off)), some cs => cond (Nat.beq cs.length n) ((storeE h id off cs).map fun h' => (und, h')) none
  | _, _ => none
noncomputable def cCalS (f : Nat) (xs : List MX) (call : CallE) (fr : Fr) (h : HS) : Option (AV × HS) := call f (evs fr xs) h
def ptrArgs (l : List (Nat × Nat)) : List AV := l.map fun (a, b) => .r (.v (.p a b))
noncomputable def cCalV (x : MX) (xs : List MX) (call : CallE) (fr : Fr) (h : HS) : Option (AV × HS) :=
  match ev fr x with
  | .r (.v (.f f a c)) => call f (ptrArgs a ++ (evs fr xs ++ ptrArgs c)) h
  | _ => none
/-- The cells of a slice's first n elements. -/
noncomputable def elems (g : Nat → Option Blk) (size n : Nat) : AV → Option (List AS)
  | .r (.v (.sl id off len _ sz)) =>
    cond (Nat.beq n 0) (some []) (cond (Nat.beq sz size) (cond (Nat.ble n len)
      (match g id with
      | some (.row _ cs) => seg cs off (n * size)
      | _ => none) none) none)
  | .r (.v .nsl) => cond (Nat.beq n 0) (some []) none
  | _ => none
def lenOf : AV → Option Nat
  | .r (.v (.sl _ _ n _ _)) => some n
  | .r (.v .nsl) => some 0
  | _ => none
noncomputable def appN (h : HS) (size n : Nat) (cells : List AS) : Option (AV × HS) := some (.r (.v (.sl h.nx 0 n none size)), h.new (.row true cells))
/-- The old block is given up, if it might be written. -/
noncomputable def appH (h : HS) (id n : Nat) : Option Nat → Option HS
  | some c => cond (Nat.blt c n) (some h) none
  | none => match h.get id with
    | some (.row true _) => some (h.put id none)
    | _ => none
/-- append: new elements behind a slice's. -/
noncomputable def appE (h : HS) (size bytes : Nat) (s : AV) (m : Nat) (new : List AS) : Option (AV × HS) :=
  match s with
  | .r (.v .nsl) => cond (Nat.beq m 0) (some (s, h)) (cond (Nat.ble (m * bytes) 70000000000000) (appN h size m new) none)
  | .r (.v (.sl id off n cap sz)) =>
    cond (Nat.beq m 0) (some (s, h)) (cond (Nat.beq sz size && Nat.ble ((n + m) * bytes) 70000000000000)
      (match elems h.get size n s, appH h id (n + m) cap with
      | some old, some h' => appN h' size (n + m) (old ++ new)
      | _, _ => none) none)
  | _ => none
noncomputable def cApp (size bytes : Nat) (s x : MX) (_ : CallE) (fr : Fr) (h : HS) : Option (AV × HS) :=
  match lenOf (ev fr x) with
  | some m =>
    match elems h.get size m (ev fr x) with
    | some new => appE h size bytes (ev fr s) m new
    | none => none
  | none => none
noncomputable def cAppz (size bytes : Nat) (z : List AS) (s x : MX) (_ : CallE) (fr : Fr) (h : HS) : Option (AV × HS) :=
  match asI (ev fr x) with
  | some (.i64, n) =>
    match natOf n with
    | some m => cond (Nat.ble m 1000000000000 && Nat.ble (m * bytes) 1000000000000) (appE h size bytes (ev fr s) m (repl z m)) none
    | none => none
  | _ => none
noncomputable def cpyTo (h : HS) (size n : Nat) (new : List AS) : AV → Option (AV × HS)
  | .r (.v (.sl id off _ _ sz)) => cond (Nat.beq sz size) ((storeE h id off new).map fun h' => (vi n, h')) none
  | .r (.v .nsl) => some (vi n, h)
  | _ => none
noncomputable def cCpy (size : Nat) (d s : MX) (_ : CallE) (fr : Fr) (h : HS) : Option (AV × HS) :=
  match lenOf (ev fr d), lenOf (ev fr s) with
  | some n, some m =>
    match elems h.get size (Nat.min m n) (ev fr s) with
    | some new => cpyTo h size (Nat.min m n) new (ev fr d)
    | none => none
  | _, _ => none
noncomputable def cClr (size : Nat) (z : List AS) (x : MX) (_ : CallE) (fr : Fr) (h : HS) : Option (AV × HS) :=
  match ev fr x with
  | .r (.v .nsl) => some (und, h)
  | .r (.v (.sl id off n _ sz)) => cond (Nat.beq n 0) (some (und, h)) (cond (Nat.beq sz size) ((storeE h id off (repl z n)).map fun h' => (und, h')) none)
  | _ => none
def lookE (ks : List TK) (zero : AS) : List (List AS × AS) → List AS → Option AS
  | [], _ => some zero
  | (k, v) :: l, x =>
    match eqCells ks x k with
    | some true => some v
    | some false => lookE ks zero l x
    | none => none
def updE (ks : List TK) : List (List AS × AS) → List AS → AS → Option (List (List AS × AS))
  | [], x, v => some [(x, v)]
  | (k, u) :: l, x, v =>
    match eqCells ks x k with
    | some true => some ((x, v) :: l)
    | some false => (updE ks l x v).map ((k, u) :: ·)
    | none => none
noncomputable def cLkp (ks : List TK) (zero : AS) (m k : MX) (_ : CallE) (fr : Fr) (h : HS) : Option (AV × HS) :=
  match ev fr m, ev fr k with
  | .r (.v (.m id)), .r (.g x) =>
    match h.get id with
    | some (.map es) => cond (Nat.beq x.length ks.length) ((lookE ks zero es x).map fun v => (.r (.v v), h)) none
    | _ => none
  | _, _ => none
noncomputable def cUpd (ks : List TK) (m k x : MX) (_ : CallE) (fr : Fr) (h : HS) : Option (AV × HS) :=
  match ev fr m, ev fr k, ev fr x with
  | .r (.v (.m id)), .r (.g k), .r (.v v) =>
    match h.get id with
    | some (.map es) => cond (Nat.beq k.length ks.length) ((updE ks es k v).map fun es' => (und, h.put id (some (.map es')))) none
    | _ => none
  | _, _, _ => none

/-! Regions -/
def iSem (f : IFun) : IntKind → Int → Int → Option AS :=
  IFun.casesOn (motive := fun _ => IntKind → Int → Int → Option AS) f fAdd fSub fMul fQuo fRem fAnd fOr fEql fNeq fLss fLeq fGtr fGeq
def shSem (left : Bool) : IntKind → Int → Int → Option AS := cond left shlN shrN
noncomputable def qSem (o : QOp) (fr : Fr) : Option AV :=
  QOp.casesOn (motive := fun _ => Option AV) o (fun x => qMv x fr) (fun c a b => qPick c a b fr) (fun z ps => qBuild z ps fr) (fun x => qNilck x fr)
    (fun f x y => qI (iSem f) x y fr) (fun l x y => qSh (shSem l) x y fr) (fun g x y => qBeq g x y fr) (fun g x y => qSeq g x y fr) (fun x y => qCat x y fr)
    (fun ks g x y => qEqg ks g x y fr) (fun p g x => qEqn p g x fr) (fun x => qNot x fr) (fun x => qNeg x fr) (fun k x => qConv k x fr) (fun o x => qFad o x fr)
    (fun l s x i => qIaA l s x i fr) (fun s x i => qIaS s x i fr) (fun l s g x i => qIxA l s g x i fr) (fun x i => qIxS x i fr) (fun o s g x => qFld o s g x fr)
    (fun x n => qExt x n fr) (fun f a c => qMkf f a c fr) (fun s x => qLen s x fr) (fun x => qCap x fr) (fun xs => qMax xs fr) (fun xs => qMin xs fr)
    (fun s x lo hi mx => qSlc s x lo hi mx fr) (fun n s x lo hi mx => qSlA n s x lo hi mx fr) none
noncomputable def nSem (o : NOp) (fr : Fr) (id : Nat) : Option (Blk × AV) :=
  NOp.casesOn (motive := fun _ => Option (Blk × AV)) o (fun z => nAlloc z fr id) (fun n x => nBox n x fr id) (fun l s z ps => nBslice l s z ps fr id)
    (fun s b z l c => nMslice s b z l c fr id) (nMap fr id)
noncomputable def cSem (o : COp) (call : CallE) (fr : Fr) (h : HS) : Option (AV × HS) :=
  COp.casesOn (motive := fun _ => Option (AV × HS)) o (fun n a x => cStore n a x call fr h) (fun f xs => cCalS f xs call fr h) (fun x xs => cCalV x xs call fr h)
    (fun s b x y => cApp s b x y call fr h) (fun s b z x y => cAppz s b z x y call fr h) (fun s d x => cCpy s d x call fr h) (fun s z x => cClr s z x call fr h)
    (fun ks z m k => cLkp ks z m k call fr h) (fun ks m k x => cUpd ks m k x call fr h)
noncomputable def opE (call : CallE) (fr : Fr) (h : HS) (o : MOp) : Option (AV × HS) :=
  MOp.casesOn (motive := fun _ => Option (AV × HS)) o (fun q => (qSem q fr).map fun v => (v, h)) (fun n a => (loadG h.get n (ev fr a)).map fun v => (v, h))
    (fun n => (nSem n fr h.nx).map fun p => (p.2, h.new p.1)) (fun c => cSem c call fr h)
def isB (w : Bool) : AV → Bool
  | .r (.v (.b x)) => x == w
  | _ => false
noncomputable def wants (fr : Fr) (g : Option (Nat × Bool)) : Bool := Option.rec (motive := fun _ => Bool) true (fun p => isB p.2 (gets fr p.1)) g
noncomputable def orE (call : CallE) (fr : Fr) (h : HS) (o : MOr) : Option (Fr × HS) :=
  cond (wants fr o.guard) ((opE call fr h o.op).map fun p => (putD fr o.dst p.1, p.2)) (some (putD fr o.dst und, h))
noncomputable def regE (call : CallE) (l : List MOr) : Fr → HS → Option (Fr × HS) :=
  List.rec (motive := fun _ => Fr → HS → Option (Fr × HS)) (fun fr h => some (fr, h)) (fun o _ ih fr h => Option.rec (motive := fun _ => Option (Fr × HS)) none (fun p => ih p.1 p.2) (orE call fr h o)) l
/-- The states ahead of each operation, the last state at the end. -/
noncomputable def traceE (call : CallE) : List MOr → Fr → HS → Option (List (Fr × HS))
  | [], fr, h => some [(fr, h)]
  | o :: l, fr, h =>
    match orE call fr h o with
    | some p => (traceE call l p.1 p.2).map ((fr, h) :: ·)
    | none => none
def stAt (t : List (Fr × HS)) (i : Nat) : Fr × HS := t.getD i (.nil, ⟨.nil, 0⟩)
def sameO (v : AV) : Option AV → Bool
  | some v' => v.same v'
  | none => false
def notId (b : Nat) : AV → Bool
  | .r (.v (.p id _)) => !(Nat.beq id b)
  | _ => false
/-- Load i, held against the operations that may come in another order. -/
noncomputable def chkL (t : List (Fr × HS)) (k : Chk) (g : Option (Nat × Bool)) (n : Option Nat) (a : MX) : Bool :=
  cond (wants (stAt t k.i).1 g) (match loadG (stAt t k.i).2.get n (ev (stAt t k.i).1 a) with
    | some v => k.cs.all (fun c => sameO v (loadG (stAt t (cond (Nat.blt c k.i) c (c + 1))).2.get n (ev (stAt t k.i).1 a))) &&
        k.ns.all (fun j => notId (stAt t j).2.nx (ev (stAt t k.i).1 a))
    | none => false) true
noncomputable def chk1 (ops : List MOr) (t : List (Fr × HS)) (k : Chk) : Bool :=
  match ops[k.i]? with
  | some ⟨_, .l n a, g⟩ => chkL t k g n a
  | _ => true
noncomputable def drwE (call : CallE) (ops : List MOr) (ks : List Chk) (fr : Fr) (h : HS) : Option (Fr × HS) :=
  match traceE call ops fr h with
  | some t => cond (ks.all (chk1 ops t)) (some (stAt t ops.length)) none
  | none => none

inductive Ex where
  | normal
  | exit (id : Nat)
  | ret
abbrev Out := Option (Ex × Fr × HS)
abbrev CodeE := MC → Fr → HS → Out
def nrm : Option (Fr × HS) → Out
  | some (fr, h) => some (.normal, fr, h)
  | none => none
/-- What comes behind a piece that has ended so. -/
def thenE (f : Fr → HS → Out) : Out → Out
  | some (.normal, fr, h) => f fr h
  | x => x
def condE (a b : Out) : AV → Out
  | .r (.v (.b true)) => a
  | .r (.v (.b false)) => b
  | _ => none
def blkE (id : Nat) : Out → Out
  | some (.exit j, fr, h) => cond (Nat.beq j id) (some (.normal, fr, h)) (some (.exit j, fr, h))
  | x => x
noncomputable def codeF (call : CallE) (rec : CodeE) (c : MC) (fr : Fr) (h : HS) : Out :=
  MC.casesOn (motive := fun _ => Out) c (some (.normal, fr, h)) (fun l => nrm (regE call l fr h)) (fun l k => nrm (drwE call l k fr h))
    (fun a b => thenE (rec b) (rec a fr h)) (fun x a b => condE (rec a fr h) (rec b fr h) (ev fr x)) (fun id b => blkE id (rec b fr h))
    (fun id => some (.exit id, fr, h)) (fun b => thenE (rec (.loop b)) (rec b fr h)) (some (.ret, fr, h)) none
noncomputable def resE (fr : Fr) (g : Nat → Option Blk) : List MRes → Option (List AR)
  | [] => some []
  | .tmp t :: l =>
    match gets fr t, resE fr g l with
    | .r x, some r => some (x :: r)
    | _, _ => none
  | .cell a n :: l =>
    match loadG g n (gets fr a), resE fr g l with
    | some (.r x), some r => some (x :: r)
    | _, _ => none
def packR : List AR → AV
  | [x] => .r x
  | l => .t l
noncomputable def frOf : List AV → Nat → Fr → Fr
  | [], _, fr => fr
  | v :: l, n, fr => frOf l (n + 1) (sets fr n v)
noncomputable def endE (res : List MRes) : Out → Option (AV × HS)
  | some (.normal, fr, h) => (resE fr h.get res).map fun l => (packR l, h)
  | some (.ret, fr, h) => (resE fr h.get res).map fun l => (packR l, h)
  | _ => none
noncomputable def funF (T : Nat → Option MFun) (code : CodeE) : CallE := fun f xs h =>
  match T f with
  | some mf => cond (Nat.ble xs.length mf.nt) (endE mf.res (code mf.body (frOf xs 0 .nil) h)) none
  | none => none
/-- Evaluation by fuel: one for each node of code that is gone through. -/
noncomputable def codeE (T : Nat → Option MFun) (n : Nat) : CodeE :=
  Nat.rec (motive := fun _ => CodeE) (fun _ _ _ => none) (fun _ ih => codeF (funF T ih) ih) n
noncomputable def funE (T : Nat → Option MFun) (n : Nat) : CallE := funF T (codeE T n)
end Go.Proofs.Ytaijmekhfleciaa.Am
