/- Operations on slices that read as lists, in a walk. -/
import Derived.Test.YtaijmekhfleciaaAmTy
set_option linter.unusedVariables false
set_option linter.unusedSimpArgs false
namespace Go.Proofs.Ytaijmekhfleciaa.Am
open Go
section
variable {T : Nat → Option MFun} {e : Env} {h : HS} {R : Env → HS → Prop} {G : Gm} {own : List (Nat × Blk)} {l : List MOr} {d : Option Nat}
theorem WL.len {x : MX} {s : AV} {sz n : Nat} {cells : List AS} (hx : evN e x = s) (hs : Rd G s sz n cells) (hl : WL T l (updO e d (vi n)) h R) : WL T (⟨d, .q (.len false x), none⟩ :: l) e h R :=
  WL.q (by show len1 false (evN e x) = _; rw [hx]; exact hs.len) hl
theorem natOf_cast {i : Int} {j : Nat} (h : i = j) : natOf i = some j := by subst h; rfl
/-- An element's address. -/
theorem WL.ia {x i : MX} {s : AV} {sz n : Nat} {cells : List AS} {k : IntKind} {z : Int} {j : Nat} (hx : evN e x = s) (hs : Rd G s sz n cells) (hi : evN e i = .r (.v (.i k z))) (hz : z = j) (hj : j < n)
    (hl : WL T l (updO e d (.r (.v (.p s.sid (s.soff + j * sz))))) h R) : WL T (⟨d, .q (.iaS sz x i), none⟩ :: l) e h R :=
  WL.q (by show iaS1 sz (evN e x) (asN (evN e i)) = _; rw [hx, hi]; show iaS1 sz s (natOf z) = _; rw [natOf_cast hz]; exact hs.ia hj) hl
/-- A place in an array. -/
theorem WL.iaA {x i : MX} {id o len sz : Nat} {k : IntKind} {z : Int} {j : Nat} (hx : evN e x = .r (.v (.p id o))) (hi : evN e i = .r (.v (.i k z))) (hz : z = j) (hj : j < len)
    (hl : WL T l (updO e d (.r (.v (.p id (o + j * sz))))) h R) : WL T (⟨d, .q (.iaA len sz x i), none⟩ :: l) e h R :=
  WL.q (by
    show iaA1 len sz (evN e x) (asN (evN e i)) = _
    rw [hx, hi]
    show iaA1 len sz _ (natOf z) = _
    rw [natOf_cast hz]
    show cond (Nat.blt j len) _ none = _
    rw [show Nat.blt j len = true by rw [Nat.blt_eq]; exact hj]
    rfl) hl
/-- One cell of an element is read. -/
theorem WL.cell {α : Type} [Enc α] {x : MX} {s : AV} {xs : List α} {o j k : Nat} {a : α} {c : AS} (ha : HA G own h) (hx : evN e x = .r (.v (.p s.sid o))) (hs : L G s xs) (hj : xs[j]? = some a) (hk : (enc a)[k]? = some c) (ho : o = s.soff + j * Enc.sz α + k)
    (hl : WL T l (updO e d (.r (.v c))) h R) : WL T (⟨d, .l none x, none⟩ :: l) e h R :=
  WL.l (by rw [hx]; exact hs.cell ha hj hk ho) hl
theorem WL.elem {α : Type} [Enc α] {x : MX} {s : AV} {xs : List α} {o j n : Nat} {a : α} (ha : HA G own h) (hx : evN e x = .r (.v (.p s.sid o))) (hn : n = Enc.sz α) (hs : L G s xs) (hj : xs[j]? = some a) (ho : o = s.soff + j * Enc.sz α)
    (hl : WL T l (updO e d (.r (.g (enc a)))) h R) : WL T (⟨d, .l (some n) x, none⟩ :: l) e h R :=
  WL.l (by subst hn; rw [hx]; exact hs.elem ha hj ho) hl
theorem WL.iaZ {x i : MX} {s : AV} {sz n : Nat} {cells : List AS} {k : IntKind} {z : Int} (hx : evN e x = s) (hs : Rd G s sz n cells) (hi : evN e i = .r (.v (.i k z))) (hz : 0 ≤ z) (hj : z < n)
    (hl : WL T l (updO e d (.r (.v (.p s.sid (s.soff + z.toNat * sz))))) h R) : WL T (⟨d, .q (.iaS sz x i), none⟩ :: l) e h R :=
  WL.ia hx hs hi (j := z.toNat) (by omega) (by omega) hl
theorem WL.iaAZ {x i : MX} {id o len sz : Nat} {k : IntKind} {z : Int} (hx : evN e x = .r (.v (.p id o))) (hi : evN e i = .r (.v (.i k z))) (hz : 0 ≤ z) (hj : z < len)
    (hl : WL T l (updO e d (.r (.v (.p id (o + z.toNat * sz))))) h R) : WL T (⟨d, .q (.iaA len sz x i), none⟩ :: l) e h R :=
  WL.iaA hx hi (j := z.toNat) (by omega) (by omega) hl
theorem getD_some {α : Type} [Inhabited α] {xs : List α} {j : Nat} (h : j < xs.length) : xs[j]? = some (xs.getD j default) := by
  simp [List.getD, List.getElem?_eq_getElem h]
theorem enc_n (c : Cl) {d : Nat} (h : d < 4) : (enc c)[d]? = some (i6 (c.n d)) := by
  match d, h with
  | 0, _ => rfl
  | 1, _ => rfl
  | 2, _ => rfl
  | 3, _ => rfl
theorem enc_o (c : Cl) {d : Nat} (h : d < 4) : (enc c)[4 + d]? = some (i6 (c.o d)) := by
  match d, h with
  | 0, _ => rfl
  | 1, _ => rfl
  | 2, _ => rfl
  | 3, _ => rfl
/-- A load, by what its address is known to be. -/
structure LK (T : Nat → Option MFun) (v : AV) (d : Option Nat) (n : Option Nat) (l : List MOr) (e : Env) (h : HS) (R : Env → HS → Prop) : Prop where
  mk :: run : ∀ a, evN e a = v → WL T (⟨d, .l n a, none⟩ :: l) e h R
theorem WL.lW {n : Option Nat} {a : MX} {v : AV} (hx : evN e a = v) (hk : LK T v d n l e h R) : WL T (⟨d, .l n a, none⟩ :: l) e h R := hk.run a hx
/-- A cell's next one in a direction; whose the edge is. -/
theorem LK.cn {s : AV} {xs : List Cl} {j k : Nat} (ha : HA G own h) (hs : L G s xs) (hj : j < xs.length) (hk : k < 4)
    (hl : WL T l (updO e d (vi ((xs.getD j default).n k))) h R) : LK T (.r (.v (.p s.sid (s.soff + j * 8 + 0 + k * 1)))) d none l e h R :=
  .mk fun a hx => WL.cell ha hx hs (getD_some hj) (enc_n _ hk) (by show _ = s.soff + j * 8 + k; omega) hl
theorem LK.co {s : AV} {xs : List Cl} {j k : Nat} (ha : HA G own h) (hs : L G s xs) (hj : j < xs.length) (hk : k < 4)
    (hl : WL T l (updO e d (vi ((xs.getD j default).o k))) h R) : LK T (.r (.v (.p s.sid (s.soff + j * 8 + 4 + k * 1)))) d none l e h R :=
  .mk fun a hx => WL.cell ha hx hs (getD_some hj) (enc_o _ hk) (by show _ = s.soff + j * 8 + (4 + k); omega) hl
theorem WL.ofInt {f : IFun} {x y : MX} (hk : WL T (⟨d, .q (.int f x y), none⟩ :: l) e h R) : WL T (⟨d, .q (.int f x y), none⟩ :: l) e h R := hk
theorem WL.ofIaS {n : Nat} {x y : MX} (hk : WL T (⟨d, .q (.iaS n x y), none⟩ :: l) e h R) : WL T (⟨d, .q (.iaS n x y), none⟩ :: l) e h R := hk
theorem WL.ofIaA {n m : Nat} {x y : MX} (hk : WL T (⟨d, .q (.iaA n m x y), none⟩ :: l) e h R) : WL T (⟨d, .q (.iaA n m x y), none⟩ :: l) e h R := hk
theorem WL.ofLen {b : Bool} {x : MX} (hk : WL T (⟨d, .q (.len b x), none⟩ :: l) e h R) : WL T (⟨d, .q (.len b x), none⟩ :: l) e h R := hk
theorem wrap_in {n : Int} (h1 : -9223372036854775808 ≤ n) (h2 : n ≤ 9223372036854775807) : IntKind.i64.wrap n = n := by
  simp only [IntKind.wrap, IntKind.signed, IntKind.bits]
  simp
  omega
/-- Numbers that stay in their bounds. -/
theorem WL.add {x y : MX} {a b : Int} (hx : evN e x = .r (.v (.i .i64 a))) (hy : evN e y = .r (.v (.i .i64 b))) (h1 : -9223372036854775808 ≤ a + b) (h2 : a + b ≤ 9223372036854775807) (hl : WL T l (updO e d (.r (.v (.i .i64 (a + b))))) h R) :
    WL T (⟨d, .q (.int .add x y), none⟩ :: l) e h R :=
  WL.q (by show int2 fAdd (evN e x) (evN e y) = _; rw [hx, hy]; simp only [int2, kindEq, fAdd, wrap_in h1 h2, cond_true, Option.map_some]) hl
theorem WL.sub {x y : MX} {a b : Int} (hx : evN e x = .r (.v (.i .i64 a))) (hy : evN e y = .r (.v (.i .i64 b))) (h1 : -9223372036854775808 ≤ a - b) (h2 : a - b ≤ 9223372036854775807) (hl : WL T l (updO e d (.r (.v (.i .i64 (a - b))))) h R) :
    WL T (⟨d, .q (.int .sub x y), none⟩ :: l) e h R :=
  WL.q (by show int2 fSub (evN e x) (evN e y) = _; rw [hx, hy]; simp only [int2, kindEq, fSub, wrap_in h1 h2, cond_true, Option.map_some]) hl
theorem WL.mul {x y : MX} {a b : Int} (hx : evN e x = .r (.v (.i .i64 a))) (hy : evN e y = .r (.v (.i .i64 b))) (h1 : -9223372036854775808 ≤ a * b) (h2 : a * b ≤ 9223372036854775807) (hl : WL T l (updO e d (.r (.v (.i .i64 (a * b))))) h R) :
    WL T (⟨d, .q (.int .mul x y), none⟩ :: l) e h R :=
  WL.q (by show int2 fMul (evN e x) (evN e y) = _; rw [hx, hy]; simp only [int2, kindEq, fMul, wrap_in h1 h2, cond_true, Option.map_some]) hl
/-- A remainder of what isn't below 0. -/
theorem WL.rem {x y : MX} {a b : Int} (hx : evN e x = .r (.v (.i .i64 a))) (hy : evN e y = .r (.v (.i .i64 b))) (h1 : 0 ≤ a) (h2 : 0 < b) (hl : WL T l (updO e d (.r (.v (.i .i64 (a % b))))) h R) :
    WL T (⟨d, .q (.int .rem x y), none⟩ :: l) e h R :=
  WL.q (by
    show int2 fRem (evN e x) (evN e y) = _
    rw [hx, hy]
    have e0 : intEq b 0 = false := by
      cases b with
      | ofNat n => cases n with
        | zero => exact absurd h2 (by decide)
        | succ n => rfl
      | negSucc n => rfl
    simp only [int2, kindEq, cond_true, fRem, e0, cond_false, Int.tmod_eq_emod_of_nonneg h1, Option.map_some]) hl
/-- A new block of one's own. -/
theorem WL.nA {o : NOp} {b : Nat → Blk} {v : Nat → AV} (ha : HA G own h) (hq : ∀ id, nN o e id = some (b id, v id)) (hl : ∀ id h1, HA G ((id, b id) :: own) h1 → WL T l (updO e d (v id)) h1 R) : WL T (⟨d, .n o, none⟩ :: l) e h R :=
  WL.n (hq h.nx) (hl h.nx _ (ha.new (b h.nx)))
/-- A load out of one's own block. -/
theorem LK.mine {id off : Nat} {b : Blk} {n : Option Nat} {v : AV} (ha : HA G own h) (hm : Mm own id b) (hv : loadB n off (some b) = some v) (hl : WL T l (updO e d v) h R) : LK T (.r (.v (.p id off))) d n l e h R :=
  .mk fun a hx => WL.l (by rw [hx]; show loadB n off (h.get id) = _; rw [ha.getOwn hm]; exact hv) hl
/-- A store into one's own block. -/
theorem WL.stO {n : Nat} {a x : MX} {id off : Nat} {cs old new : List AS} {own' : List (Nat × Blk)} (ha : HA G own h) (hx : evN e a = .r (.v (.p id off))) (hc : cellsOf (evN e x) = some cs) (hn : Nat.beq cs.length n = true)
    (hm : At own id (.row true old) (.row true new) own') (hs : splice old off cs = some new) (hl : ∀ h1, HA G own' h1 → WL T l (updO e d und) h1 R) : WL T (⟨d, .c (.store n a x), none⟩ :: l) e h R := by
  refine WL.c (v := und) (h' := h.put id (some (.row true new))) ?_ (hl _ (ha.put hm))
  show (store1 n (evN e a) (cellsOf (evN e x)) h).map _ = _
  rw [hx, hc]
  show (cond (Nat.beq cs.length n) (storeE h id off cs) none).map _ = _
  rw [hn, cond_true]
  unfold storeE
  rw [show h.get id = some (.row true old) from ha.ow _ hm.mem]
  simp only [hs, Option.map_some]
/-- A number that fits another kind. -/
theorem WL.conv {x : MX} {k : IntKind} {a : Int} (hx : evN e x = .r (.v (.i k a))) (h1 : -9223372036854775808 ≤ a) (h2 : a ≤ 9223372036854775807) (hl : WL T l (updO e d (.r (.v (.i .i64 a)))) h R) : WL T (⟨d, .q (.conv .i64 x), none⟩ :: l) e h R :=
  WL.q (by show conv1 .i64 (evN e x) = _; rw [hx]; simp only [conv1, wrap_in h1 h2]) hl
def mnI (a b : Int) : Int := if b < a then b else a
def mxI (a b : Int) : Int := if b > a then b else a
theorem WL.min2 {x y : MX} {k k' : IntKind} {a b : Int} (hx : evN e x = .r (.v (.i k a))) (hy : evN e y = .r (.v (.i k' b))) (hl : WL T l (updO e d (.r (.v (.i k (mnI a b))))) h R) : WL T (⟨d, .q (.min [x, y]), none⟩ :: l) e h R :=
  WL.q (by show minI [evN e x, evN e y] = _; rw [hx, hy]; rfl) hl
theorem WL.max2 {x y : MX} {k k' : IntKind} {a b : Int} (hx : evN e x = .r (.v (.i k a))) (hy : evN e y = .r (.v (.i k' b))) (hl : WL T l (updO e d (.r (.v (.i k (mxI a b))))) h R) : WL T (⟨d, .q (.max [x, y]), none⟩ :: l) e h R :=
  WL.q (by show maxI [evN e x, evN e y] = _; rw [hx, hy]; rfl) hl
theorem WL.ofSt {n : Nat} {x y : MX} (hk : WL T (⟨d, .c (.store n x y), none⟩ :: l) e h R) : WL T (⟨d, .c (.store n x y), none⟩ :: l) e h R := hk
theorem WL.ofN {o : NOp} (hk : WL T (⟨d, .n o, none⟩ :: l) e h R) : WL T (⟨d, .n o, none⟩ :: l) e h R := hk
end
end Go.Proofs.Ytaijmekhfleciaa.Am
