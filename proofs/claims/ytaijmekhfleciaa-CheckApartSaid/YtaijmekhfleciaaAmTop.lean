/- From a run of the small machine over arguments that can be read as data to the model's call. -/
import Derived.Test.YtaijmekhfleciaaAmOpen
import Derived.Test.YtaijmekhfleciaaAmTabOk
import Derived.Test.YtaijmekhfleciaaAmTab
set_option linter.unusedVariables false
set_option linter.unusedSimpArgs false
namespace Go.Proofs.Ytaijmekhfleciaa.Am
open Go Go.ChangeShapes Go.WideShapes Go.ChangeAt Go.RowKit
set_option maxRecDepth 100000
section
variable {H : Type} {enc : TypeId × Value → H} {w : World} {base : Nat} {spare : Nat → Bool} {held : Bool}
theorem Stp.below {g g' : Gm} {ρ ρ' : Rho} {w w' : World} {lo hi : Nat} (hs : Stp g ρ w g' ρ' w' lo hi) (ho : ∀ id b, g id = some b → b.own = false) : Below w.heap.size w w' :=
  ⟨hs.os, hs.tape, hs.output, hs.size, fun k hk => hs.keep k hk fun id b x hg hb => absurd hb (by rw [ho id b hg]; simp)⟩
/-- Whatever comes in and reads as data: where the small machine answers true, the model's call returns true, and all that was there is as it was. -/
theorem calls_true {n m : Nat} {r : Reach} {b0 : Nat} {ts : List TypeId} {shs : List (Bool × List Lf)} {vs : List Value} {ds : List (DataW H)} {ps : List MemPlace} (hm : ts.mapM (argL Try.prog m) = some shs)
    (hA : DataW.TrodAll enc Try.prog w base spare held ts vs ds ps) (hok : ∀ (j : Nat) t v, ts[j]? = some t → vs[j]? = some v → Value.okWide Try.prog w r b0 t v)
    (hrun : ∀ xs h, HA h.get [] h → ArgsOk h.get shs xs → WF tab n xs h fun v _ => v = vb true) : Calls Try.prog n vs.toArray w fun e w' => e = .returned (.bool true) ∧ Below w.heap.size w w' := by
  obtain ⟨h, ρ, xs, hi, _, _, hr, ha⟩ := In.args (In.nil w) hm hA hok
  obtain ⟨N, v, h', e, rfl⟩ := hrun xs h hi.ha ha
  obtain ⟨_, _, hc⟩ := sound tab_ok N n xs h (vb true) h' vs ρ w e hr hi.rb hi.wf (fun id h1 _ => hi.fr id h1)
  refine hc.mono fun e w' ⟨u, ρ', he, hu, hs⟩ => ?_
  have hu' : u = .bool true := hu
  subst hu'
  exact ⟨he, hs.below hi.ro⟩
end
end Go.Proofs.Ytaijmekhfleciaa.Am
