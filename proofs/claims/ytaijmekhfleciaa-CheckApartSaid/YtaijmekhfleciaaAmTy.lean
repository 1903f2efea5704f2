/- Slices that read as lists of data: how each datum is laid in cells. -/
import Derived.Test.YtaijmekhfleciaaAmMem
set_option linter.unusedVariables false
set_option linter.unusedSimpArgs false
namespace Go.Proofs.Ytaijmekhfleciaa.Am
open Go
/-- How a datum is laid in so many cells. -/
class Enc (α : Type) where
  sz : Nat
  enc : α → List AS
  len : ∀ a, (enc a).length = sz
export Enc (enc)
instance : Enc Int := ⟨1, fun n => [.i .i64 n], fun _ => rfl⟩
instance : Enc Bool := ⟨1, fun b => [.b b], fun _ => rfl⟩
/-- A whole number of another kind. -/
structure Kn (k : IntKind) where
  n : Int
instance (k : IntKind) : Enc (Kn k) := ⟨1, fun n => [.i k n.n], fun _ => rfl⟩
/-- A cell: its next ones, the edges' owners. -/
@[ext] structure Cl where
  n0 : Int
  n1 : Int
  n2 : Int
  n3 : Int
  o0 : Int
  o1 : Int
  o2 : Int
  o3 : Int
deriving DecidableEq
def Cl.n (c : Cl) : Nat → Int
  | 0 => c.n0
  | 1 => c.n1
  | 2 => c.n2
  | _ => c.n3
def Cl.o (c : Cl) : Nat → Int
  | 0 => c.o0
  | 1 => c.o1
  | 2 => c.o2
  | _ => c.o3
def Cl.setN (c : Cl) (d : Nat) (w : Int) : Cl :=
  match d with
  | 0 => { c with n0 := w }
  | 1 => { c with n1 := w }
  | 2 => { c with n2 := w }
  | _ => { c with n3 := w }
def Cl.setO (c : Cl) (d : Nat) (w : Int) : Cl :=
  match d with
  | 0 => { c with o0 := w }
  | 1 => { c with o1 := w }
  | 2 => { c with o2 := w }
  | _ => { c with o3 := w }
instance : Inhabited Cl := ⟨⟨-1, -1, -1, -1, 0, 0, 0, 0⟩⟩
abbrev i6 (n : Int) : AS := .i .i64 n
instance : Enc Cl := ⟨8, fun c => [i6 c.n0, i6 c.n1, i6 c.n2, i6 c.n3, i6 c.o0, i6 c.o1, i6 c.o2, i6 c.o3], fun _ => rfl⟩
/-- A point. -/
@[ext] structure Pt where
  x : Int
  y : Int
deriving DecidableEq
instance : Inhabited Pt := ⟨⟨0, 0⟩⟩
instance : Enc Pt := ⟨2, fun p => [i6 p.x, i6 p.y], fun _ => rfl⟩
@[ext] structure Ar where
  f : Int
  t : Int
  w : Int
deriving DecidableEq
instance : Inhabited Ar := ⟨⟨0, 0, 0⟩⟩
instance : Enc Ar := ⟨3, fun a => [i6 a.f, i6 a.t, i6 a.w], fun _ => rfl⟩
@[ext] structure Dt where
  v : Int
  d : Int
deriving DecidableEq
instance : Inhabited Dt := ⟨⟨0, 0⟩⟩
instance : Enc Dt := ⟨2, fun p => [i6 p.v, i6 p.d], fun _ => rfl⟩
@[ext] structure Ln where
  vert : Bool
  at_ : Int
deriving DecidableEq
instance : Inhabited Ln := ⟨⟨false, 0⟩⟩
instance : Enc Ln := ⟨2, fun p => [.b p.vert, i6 p.at_], fun _ => rfl⟩
@[ext] structure P2 where
  a : Int
  b : Int
deriving DecidableEq
instance : Inhabited P2 := ⟨⟨0, 0⟩⟩
instance : Enc P2 := ⟨2, fun p => [i6 p.a, i6 p.b], fun _ => rfl⟩
def flat {α : Type} [Enc α] (l : List α) : List AS := l.flatMap enc
theorem flat_len {α : Type} [Enc α] (l : List α) : (flat l).length = l.length * Enc.sz α := by
  induction l with
  | nil => simp [flat]
  | cons a l ih =>
    have : (flat (a :: l)) = enc a ++ flat l := rfl
    rw [this, List.length_append, ih, Enc.len, List.length_cons, Nat.add_mul]; omega
theorem flat_get {α : Type} [Enc α] : ∀ {l : List α} {j k : Nat} {a : α}, l[j]? = some a → k < Enc.sz α → (flat l)[j * Enc.sz α + k]? = (enc a)[k]?
  | [], j, k, a, h, _ => by simp at h
  | b :: l, 0, k, a, h, hk => by
    simp at h; subst h
    show (enc b ++ flat l)[0 * Enc.sz α + k]? = _
    rw [Nat.zero_mul, Nat.zero_add, List.getElem?_append_left (by rw [Enc.len]; exact hk)]
  | b :: l, j + 1, k, a, h, hk => by
    show (enc b ++ flat l)[(j + 1) * Enc.sz α + k]? = _
    have hl : (enc b).length = Enc.sz α := Enc.len b
    rw [Nat.add_mul, List.getElem?_append_right (by omega), hl, show j * Enc.sz α + 1 * Enc.sz α + k - Enc.sz α = j * Enc.sz α + k by omega]
    exact flat_get (by simpa using h) hk
theorem flat_part {α : Type} [Enc α] : ∀ {l : List α} {j : Nat} {a : α}, l[j]? = some a → ((flat l).drop (j * Enc.sz α)).take (Enc.sz α) = enc a
  | [], j, a, h => by simp at h
  | b :: l, 0, a, h => by
    simp at h; subst h
    show ((enc b ++ flat l).drop (0 * Enc.sz α)).take _ = _
    rw [Nat.zero_mul, List.drop_zero, List.take_append_of_le_length (by rw [Enc.len]; exact Nat.le_refl _), List.take_of_length_le (by rw [Enc.len]; exact Nat.le_refl _)]
  | b :: l, j + 1, a, h => by
    show ((enc b ++ flat l).drop ((j + 1) * Enc.sz α)).take _ = _
    have hl : (enc b).length = Enc.sz α := Enc.len b
    rw [Nat.add_mul, Nat.one_mul, Nat.add_comm, ← List.drop_drop, ← hl, List.drop_left, hl]
    exact flat_part (by simpa using h)
theorem flat_append {α : Type} [Enc α] (a b : List α) : flat (a ++ b) = flat a ++ flat b := by simp [flat]
/-- A slice reads as a list. -/
abbrev L {α : Type} [Enc α] (G : Gm) (s : AV) (l : List α) : Prop := Rd G s (Enc.sz α) l.length (flat l)
section
variable {α : Type} [Enc α] {G G' : Gm} {s : AV} {l : List α} {own : List (Nat × Blk)} {h : HS}
/-- One cell of an element. -/
theorem L.cell (hs : L G s l) (ha : HA G own h) {o j k : Nat} {a : α} {c : AS} (hj : l[j]? = some a) (hk : (enc a)[k]? = some c) (ho : o = s.soff + j * Enc.sz α + k) : loadG h.get none (.r (.v (.p s.sid o))) = some (.r (.v c)) := by
  have hk2 : k < Enc.sz α := by rw [← Enc.len a]; exact (List.getElem?_eq_some_iff.1 hk).1
  exact Rd.cell hs ha (k := j * Enc.sz α + k) (by rw [flat_get hj hk2, hk]) (by omega)
/-- An element whole. -/
theorem L.elem (hs : L G s l) (ha : HA G own h) {o j : Nat} {a : α} (hj : l[j]? = some a) (ho : o = s.soff + j * Enc.sz α) : loadG h.get (some (Enc.sz α)) (.r (.v (.p s.sid o))) = some (.r (.g (enc a))) := by
  have hlt : j < l.length := (List.getElem?_eq_some_iff.1 hj).1
  have hm : j * Enc.sz α + Enc.sz α ≤ l.length * Enc.sz α := by
    rw [← Nat.succ_mul]; exact Nat.mul_le_mul_right _ hlt
  rw [Rd.part hs ha (k := j * Enc.sz α) hm (by omega) ho, flat_part hj]
end
end Go.Proofs.Ytaijmekhfleciaa.Am
