/- The compiler from loaded Code to the op language of 'Am': a Lean function; what it does not take becomes 'bad', which answers nothing. No statement is proved here. -/
import Derived.Test.YtaijmekhfleciaaAmDef
set_option linter.unusedVariables false
namespace Go.Proofs.Ytaijmekhfleciaa.Am
open Go

def cAS : Value → Option AS
  | .bool x => some (.b x)
  | .int k n => some (.i k n)
  | .string s => some (.s s)
  | .pointer none => some .np
  | .slice none 0 0 => some .nsl
  | .nilFunc => some .nf
  | .nilIface => some .ni
  | .map none => some .nm
  | _ => none
def cASs : List Value → Option (List AS)
  | [] => some []
  | v :: l =>
    match cAS v, cASs l with
    | some a, some r => some (a :: r)
    | _, _ => none
def cAV : Value → Option AV
  | .agg cs => (cASs cs.toList).map fun l => .r (.g l)
  | .tuple vs => match vs.toList with
    | [] => some (.t [])
    | _ => none
  | v => (cAS v).map fun a => .r (.v a)
def cX : Operand → Option MX
  | .tmp t => some (.t t)
  | .const v => (cAV v).map .c
  | .func f => some (.f f)
  | .global _ => none
def cXs : List Operand → Option (List MX)
  | [] => some []
  | x :: l =>
    match cX x, cXs l with
    | some a, some r => some (a :: r)
    | _, _ => none
def cXo : Option Operand → Option (Option MX)
  | none => some none
  | some x => (cX x).map some
def zeroL (P : Program) (t : TypeId) : Option (List AS) :=
  match P.info? t with
  | some i => match i.zero with
    | some z => cASs z.cells.toList
    | none => none
  | none => none
/-- A type's zero is one cell. -/
def zeroOne (P : Program) (t : TypeId) : Bool :=
  match P.info? t with
  | some i => match i.zero with
    | some z => z.oneCell'
    | none => false
  | none => false
def sizeP (P : Program) (t : TypeId) : Option Nat := (P.info? t).map (·.size)
def bytesP (P : Program) (t : TypeId) : Option Nat := (P.info? t).map (·.bytes)
def aggP (P : Program) (t : TypeId) : Option Bool :=
  match P.underlying t with
  | some (.struct _) | some (.array _ _) => some true
  | some _ => some false
  | none => none
def plainFs (P : Program) (rec : TypeId → Option (List TK)) (size : Option Nat) : Nat → List Field → Option (List TK)
  | off, [] => match size with
    | some s => bif Nat.beq s off then some [] else none
    | none => none
  | off, f :: l => bif !(f.name == "_") && Nat.beq f.offset off then (match rec f.type with
    | some ks => (plainFs P rec size (off + ks.length) l).map (ks ++ ·)
    | none => none) else none
def kRep (ks : List TK) : Nat → List TK
  | 0 => []
  | n + 1 => ks ++ kRep ks n
def plain1 (P : Program) (t : TypeId) (k : TK) : Option (List TK) :=
  match sizeP P t with
  | some 1 => some [k]
  | _ => none
/-- Types whose values are told apart cell by cell: whole numbers, bools, strings, and structs and arrays of these: the cells' kinds. -/
def plainT (P : Program) : Nat → TypeId → Option (List TK)
  | 0, _ => none
  | d + 1, t =>
    match P.underlying t with
    | some (.int _) => plain1 P t .i
    | some .bool => plain1 P t .b
    | some .string => plain1 P t .s
    | some (.struct fs) => bif P.stoodInHeld t then none else plainFs P (plainT P d) (sizeP P t) 0 fs.toList
    | some (.array n e) => match plainT P d e, sizeP P t, sizeP P e with
      | some ks, some s, some m => bif Nat.beq s (n * m) && (Nat.blt 0 m && Nat.beq m ks.length) then some (kRep ks n) else none
      | _, _, _ => none
    | _ => none
/-- Parts of a literal: where each goes, how many cells it has. -/
def cParts (place : Nat → Option (Nat × Nat)) : List (Nat × Operand) → Option (List (Nat × Nat × MX))
  | [] => some []
  | (i, x) :: l =>
    match place i, cX x, cParts place l with
    | some p, some a, some r => some ((p.1, p.2, a) :: r)
    | _, _, _ => none
def rowPlace (size i : Nat) : Option (Nat × Nat) := some (i * size, size)
def placesP (P : Program) : List Field → Option (List (Nat × Nat))
  | [] => some []
  | f :: l =>
    match sizeP P f.type, placesP P l with
    | some s, some r => some ((f.offset, s) :: r)
    | _, _ => none
def isNilS : Operand → Bool
  | .const (.slice none 0 0) => true
  | _ => false
def isNilP : Operand → Bool
  | .const (.pointer none) => true
  | _ => false
def intOp (op : BinOp) (a b : MX) : Option MOp :=
  match op with
  | .add => some (.q (.int .add a b))
  | .sub => some (.q (.int .sub a b))
  | .mul => some (.q (.int .mul a b))
  | .quo => some (.q (.int .quo a b))
  | .rem => some (.q (.int .rem a b))
  | .and => some (.q (.int .and a b))
  | .or => some (.q (.int .or a b))
  | .eql => some (.q (.int .eql a b))
  | .neq => some (.q (.int .neq a b))
  | .lss => some (.q (.int .lss a b))
  | .leq => some (.q (.int .leq a b))
  | .gtr => some (.q (.int .gtr a b))
  | .geq => some (.q (.int .geq a b))
  | .shl => some (.q (.sh true a b))
  | .shr => some (.q (.sh false a b))
  | _ => none
def eqOp (op : BinOp) (f : Bool → MOp) : Option MOp :=
  match op with
  | .eql => some (f false)
  | .neq => some (f true)
  | _ => none
def cBin (P : Program) (op : BinOp) (t : TypeId) (x y : Operand) : Option MOp :=
  match P.underlying t, cX x, cX y with
  | some (.int _), some a, some b => intOp op a b
  | some .string, some a, some b => match op with
    | .add => some (.q (.cat a b))
    | _ => eqOp op fun g => .q (.seq g a b)
  | some .bool, some a, some b => eqOp op fun g => .q (.beq g a b)
  | some (.struct _), some a, some b | some (.array _ _), some a, some b => match plainT P 20 t with
    | some ks => bif P.eqGuardType P.depth t then none else eqOp op fun g => .q (.eqg ks g a b)
    | none => none
  | some (.slice _), some a, some _ => bif isNilS y then eqOp op fun g => .q (.eqn false g a) else none
  | some (.pointer _), some a, some _ => bif isNilP y then eqOp op fun g => .q (.eqn true g a) else none
  | _, _, _ => none
/-- A type's zero, as many cells as its size says, and one at least. -/
def rowL (P : Program) (e : TypeId) : Option (Nat × List AS) :=
  match sizeP P e, zeroL P e with
  | some s, some z => bif Nat.beq z.length s && Nat.blt 0 s then some (s, z) else none
  | _, _ => none
def cCall (P : Program) (c : Call) : Option MOp :=
  match cXs c.args.toList with
  | none => none
  | some xs =>
    match c.callee with
    | .value (.func f) => some (.c (.cals f xs))
    | .value (.tmp t) => some (.c (.calv (.t t) xs))
    | .value _ => none
    | .invoke _ _ => none
    | .builtin b =>
      match b, xs, c.argTypes.toList with
      | .len, [x], t0 :: _ => match P.underlying t0 with
        | some (.slice _) => some (.q (.len false x))
        | some .string => some (.q (.len true x))
        | some (.array n _) => some (.q (.mv (.c (vi n))))
        | _ => none
      | .cap, [x], t0 :: _ => match P.underlying t0 with
        | some (.slice _) => some (.q (.cap x))
        | some (.array n _) => some (.q (.mv (.c (vi n))))
        | _ => none
      | .max, xs, _ => some (.q (.max xs))
      | .min, xs, _ => some (.q (.min xs))
      | .append, [s, x], [t0, t1] => match P.underlying t0 with
        | some (.slice e) => match rowL P e, bytesP P e, P.underlying t1 with
          | some (size, _), some bytes, some (.slice _) => bif Nat.blt 0 bytes then some (.c (.app size bytes s x)) else none
          | _, _, _ => none
        | _ => none
      | .copy, [d, s], t0 :: _ => match P.underlying t0 with
        | some (.slice e) => (sizeP P e).map fun size => .c (.cpy size d s)
        | _ => none
      | .clear, [x], t0 :: _ => match P.underlying t0 with
        | some (.slice e) => (rowL P e).map fun r => .c (.clr r.1 r.2 x)
        | _ => none
      | _, _, _ => none
def cOp (P : Program) (o : Op) : Option MOp :=
  match o with
  | .move x | .assign x => (cX x).map fun a => .q (.mv a)
  | .pick c a b => match cX c, cX a, cX b with
    | some c, some a, some b => some (.q (.pick c a b))
    | _, _, _ => none
  | .alloc e => (zeroL P e).map fun z => .n (.alloc z)
  | .box e x => match sizeP P e, cX x with
    | some n, some a => some (.n (.box n a))
    | _, _ => none
  | .build t ps => match P.underlying t, zeroL P t with
    | some (.struct fs), some z => match placesP P fs.toList with
      | some pl => (cParts (pl[·]?) ps.toList).map fun l => .q (.build z l)
      | none => none
    | some (.array _ e), some z => match sizeP P e with
      | some s => (cParts (rowPlace s) ps.toList).map fun l => .q (.build z l)
      | none => none
    | _, _ => none
  | .buildSlice t len ps => match P.underlying t with
    | some (.slice e) => match rowL P e with
      | some (s, z) => bif Nat.ble (len * s) 1000000 then (cParts (rowPlace s) ps.toList).map fun l => .n (.bslice len s z l) else none
      | none => none
    | _ => none
  | .load t a => match aggP P t, sizeP P t, cX a with
    | some true, some s, some a => some (.l (some s) a)
    | some false, some _, some a => some (.l none a)
    | _, _, _ => none
  | .store t a x => match sizeP P t, cX a, cX x with
    | some s, some a, some x => some (.c (.store s a x))
    | _, _, _ => none
  | .nilCheck x => (cX x).map fun a => .q (.nilck a)
  | .binOp op t x y _ => cBin P op t x y
  | .unOp op _ x => match op, cX x with
    | .not, some a => some (.q (.not a))
    | .neg, some a => some (.q (.neg a))
    | _, _ => none
  | .convert s d x => match P.underlying s, P.underlying d, cX x with
    | some (.int _), some (.int k), some a => some (.q (.conv k a))
    | _, _, _ => none
  | .makeFunc (.func f) first caps => match cXs first.toList, cXs caps.toList with
    | some a, some c => some (.q (.mkf f a c))
    | _, _ => none
  | .makeMap t none => match P.underlying t with
    | some (.map _ _) => some (.n .mmap)
    | _ => none
  | .makeSlice t l c => match P.underlying t, cX l, cX c with
    | some (.slice e), some l, some c => match rowL P e, bytesP P e with
      | some (s, z), some b => bif Nat.blt 0 b then some (.n (.mslice s b z l c)) else none
      | _, _ => none
    | _, _, _ => none
  | .slice t x lo hi mx => match cX x, cXo lo, cXo hi, cXo mx with
    | some x, some lo, some hi, some mx => match P.underlying t with
      | some (.slice e) => (sizeP P e).map fun s => .q (.slc s x lo hi mx)
      | some (.array n e) => (sizeP P e).map fun s => .q (.slA n s x lo hi mx)
      | _ => none
    | _, _, _, _ => none
  | .fieldAddr s x f => match P.underlying s, cX x with
    | some (.struct fs), some a => match fs.toList[f]? with
      | some fd => match sizeP P fd.type with
        | some (_ + 1) => some (.q (.fad fd.offset a))
        | _ => none
      | none => none
    | _, _ => none
  | .field s x f => match P.underlying s, cX x with
    | some (.struct fs), some a => match fs.toList[f]? with
      | some fd => match sizeP P fd.type, aggP P fd.type with
        | some n, some g => some (.q (.fld fd.offset n g a))
        | _, _ => none
      | none => none
    | _, _ => none
  | .indexAddr t x i => match P.underlying t, cX x, cX i with
    | some (.array n e), some x, some i => (sizeP P e).map fun s => .q (.iaA n s x i)
    | some (.slice e), some x, some i => (sizeP P e).map fun s => .q (.iaS s x i)
    | _, _, _ => none
  | .index t x i => match P.underlying t, cX x, cX i with
    | some (.array n e), some x, some i => match sizeP P e, aggP P e with
      | some s, some g => some (.q (.ixA n s g x i))
      | _, _ => none
    | some .string, some x, some i => some (.q (.ixS x i))
    | _, _, _ => none
  | .extract x n => (cX x).map fun a => .q (.ext a n)
  | .lookup t m k false => match P.underlying t, cX m, cX k with
    | some (.map kt e), some m, some k => match aggP P kt, aggP P e, zeroL P e with
      | some true, some false, some [z] => bif zeroOne P e then (plainT P 20 kt).map fun ks => .c (.lkp ks z m k) else none
      | _, _, _ => none
    | _, _, _ => none
  | .mapUpdate t m k x => match P.underlying t, cX m, cX k, cX x with
    | some (.map kt e), some m, some k, some x => match aggP P kt with
      | some true => (plainT P 20 kt).map fun ks => .c (.upd ks m k x)
      | _ => none
    | _, _, _, _ => none
  | .call c => cCall P c
  | _ => none
def badOr : MOr := ⟨none, .q .bad, none⟩
def dstOk (nt : Nat) : Option Nat → Bool
  | none => true
  | some d => Nat.blt d nt
def cOr (P : Program) (nt : Nat) (ops : List Oper) (o : Oper) : MOr :=
  bif dstOk nt o.dst then
    match cOp P o.op, o.guard with
    | some m, none => ⟨o.dst, m, none⟩
    | some m, some (j, w) => match ops[j]? with
      | some oj => match oj.dst with
        | some d => ⟨o.dst, m, some (d, w)⟩
        | none => badOr
      | none => badOr
    | none, _ => badOr
  else badOr

/-! Regions whose order is drawn -/
def preds (o : Oper) : List Nat := (o.after.toList.filter fun e => Region.binds .any e).map (·.on)
/-- Of each operation which come ahead of it in every order, as bits. -/
def orP (acc : List Nat) : List Nat → Nat
  | [] => 0
  | p :: l => (2 ^ p ||| acc.getD p 0) ||| orP acc l
def befs (l : List Oper) : List Nat := go l []
where go : List Oper → List Nat → List Nat
  | [], acc => acc
  | o :: l, acc => go l (acc ++ [orP acc (preds o)])
def oX : Option MX → List MX
  | none => []
  | some x => [x]
def pX (l : List (Nat × Nat × MX)) : List MX := l.map fun p => p.2.2
def QOp.xs : QOp → List MX
  | .mv x | .nilck x | .eqn _ _ x | .not x | .neg x | .conv _ x | .fad _ x | .fld _ _ _ x | .ext x _ | .len _ x | .cap x => [x]
  | .pick c a b => [c, a, b]
  | .build _ ps => pX ps
  | .int _ x y | .sh _ x y | .beq _ x y | .seq _ x y | .cat x y | .eqg _ _ x y | .iaA _ _ x y | .iaS _ x y | .ixA _ _ _ x y | .ixS x y => [x, y]
  | .mkf _ a c => a ++ c
  | .max xs | .min xs => xs
  | .slc _ x lo hi mx | .slA _ _ x lo hi mx => x :: (oX lo ++ (oX hi ++ oX mx))
  | .bad => []
def NOp.xs : NOp → List MX
  | .alloc _ | .mmap => []
  | .box _ x => [x]
  | .bslice _ _ _ ps => pX ps
  | .mslice _ _ _ l c => [l, c]
def COp.xs : COp → List MX
  | .store _ a x => [a, x]
  | .cals _ xs => xs
  | .calv x xs => x :: xs
  | .app _ _ s x | .appz _ _ _ s x | .cpy _ s x => [s, x]
  | .clr _ _ x => [x]
  | .lkp _ _ m k => [m, k]
  | .upd _ m k x => [m, k, x]
def MOp.xs : MOp → List MX
  | .q o => o.xs
  | .l _ a => [a]
  | .n o => o.xs
  | .c o => o.xs
def MX.tmps : MX → List Nat
  | .t n => [n]
  | _ => []
/-- The temporaries an operation looks at. -/
def MOr.looks (m : MOr) : List Nat := m.op.xs.flatMap MX.tmps ++ (match m.guard with
  | some (d, _) => [d]
  | none => [])
def MOr.names (m : MOr) : List Nat := m.dst.toList ++ m.looks
inductive Cls where
  | q | l | n | c
def clsOf : MOp → Cls
  | .q _ => .q
  | .l _ _ => .l
  | .n _ => .n
  | .c _ => .c
def clsAt (ms : List MOr) (i : Nat) : Cls := match ms[i]? with
  | some m => clsOf m.op
  | none => .q
/-- i < j, unordered: may they be? -/
def pairOk : Cls → Cls → Bool
  | .c, .c => false
  | .n, .c => false
  | _, _ => true
def ahead (b : List Nat) (i j : Nat) : Bool := (b.getD j 0).testBit i
def ordered (b : List Nat) (i j : Nat) : Bool := ahead b i j || ahead b j i
def predsOk (ops : List Oper) : Bool := (List.range ops.length).all fun j => match ops[j]? with
  | some o => (preds o).all fun p => Nat.blt p j
  | none => true
def namesOk (b : List Nat) (ms : List MOr) : Bool := (List.range ms.length).all fun j => match ms[j]? with
  | some m => m.names.all fun t => (List.range ms.length).all fun i => Nat.beq i j || (match ms[i]? with
    | some mi => match mi.dst with
      | some d => !(Nat.beq d t) || ordered b i j
      | none => true
    | none => true)
  | none => true
def pairsOk (b : List Nat) (ms : List MOr) : Bool := (List.range ms.length).all fun j => (List.range j).all fun i => ahead b i j || pairOk (clsAt ms i) (clsAt ms j)
def drawnOk (ops : List Oper) (ms : List MOr) : Bool := predsOk ops && (namesOk (befs ops) ms && pairsOk (befs ops) ms)
def chksOf (ops : List Oper) (ms : List MOr) : List Chk :=
  let b := befs ops
  (List.range ms.length).flatMap fun i =>
    match clsAt ms i with
    | .l => [{ i := i, cs := (List.range ms.length).filter fun c => !(Nat.beq c i) && (match clsAt ms c with | .c => true | _ => false) && !ordered b c i,
               ns := (List.range i).filter fun n => (match clsAt ms n with | .n => true | _ => false) && !ordered b n i }]
    | _ => []
def compC (P : Program) (nt : Nat) : Code → MC
  | .skip => .skip
  | .region _ ops false => .reg (ops.toList.map (cOr P nt ops.toList))
  | .region _ ops true =>
    let ms := ops.toList.map (cOr P nt ops.toList)
    bif drawnOk ops.toList ms && P.follows .mixedOrders then .drw ms (chksOf ops.toList ms) else .bad
  | .seq a b => .seq (compC P nt a) (compC P nt b)
  | .cond c a b => match cX c with
    | some x => .cond x (compC P nt a) (compC P nt b)
    | none => .bad
  | .block id b => .blk id (compC P nt b)
  | .exit id => .exit id
  | .loop b => .loop (compC P nt b)
  | .ret => .ret
  | _ => .bad
def compR (P : Program) : List ResultVar → Option (List MRes)
  | [] => some []
  | .tmp t :: l => (compR P l).map (.tmp t :: ·)
  | .cell a t :: l =>
    match aggP P t, sizeP P t, compR P l with
    | some true, some s, some r => some (.cell a (some s) :: r)
    | some false, some _, some r => some (.cell a none :: r)
    | _, _, _ => none
def compF (P : Program) (f : FuncId) : Option MFun :=
  match P.funcs[f]? with
  | some fn =>
    match fn.body, compR P fn.results.toList with
    | some c, some r => bif fn.name == "runtime.NumGoroutine" then none else some { nt := fn.ntmps, res := r, body := compC P fn.ntmps c }
    | _, _ => none
  | none => none
end Go.Proofs.Ytaijmekhfleciaa.Am
