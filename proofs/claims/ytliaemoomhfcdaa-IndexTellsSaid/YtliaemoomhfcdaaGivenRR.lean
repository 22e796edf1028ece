/- The contract of the reference's check of words, in the printed texts' own form. -/
import Derived.Test.YtliaemoomhfcdaaMX
import Derived.Test.YtliaemoomhfcdaaRRx0
import Derived.Test.YtliaemoomhfcdaaRefSum
namespace Go.Proofs.Ytliaemoomhfcdaa.RR
open Go.RowKit Go.Proofs.YtliaemoomhfcdaaW.PrintWords Go.Proofs.YtliaemoomhfcdaaW.PrintLast Go.Proofs.YtliaemoomhfcdaaW.PrintMore
set_option linter.unusedVariables false
set_option linter.unusedSimpArgs false
noncomputable section

def lamplighterref03_Of.f (l0 : List Int) : Option Int := if l0.length ≤ 1000000 then some (sumOf l0) else none
theorem lamplighterref03_Of.calls (A0 : Option Addr) (c0 : Nat) (l0 : List Int) (r : Int) (w : World) (hr0 : Kd.C (Kd.int .i64) w A0 l0.length l0) (hc0 : l0.length ≤ c0) (h : lamplighterref03_Of.f l0 = some r) :
    Calls Try.prog 110 #[.slice A0 l0.length c0] w fun e w' => e = .returned (.int .i64 r) ∧ Below w.heap.size w w' := by
  unfold lamplighterref03_Of.f at h
  split at h
  · rename_i hs
    injection h with h
    subst h
    exact rof_call A0 l0.length c0 l0 w (RI_of_C hr0) hs
  · cases h
end
end Go.Proofs.Ytliaemoomhfcdaa.RR
