/- The contract of whether an index is sound, in the printed texts' own form. -/
import Derived.Test.YtliaemoomhfcdaaISx3
namespace Go.Proofs.Ytliaemoomhfcdaa.SO
open Go.RowKit Go.Proofs.YtliaemoomhfcdaaW.PrintWords Go.Proofs.YtliaemoomhfcdaaW.PrintLast Go.Proofs.YtliaemoomhfcdaaW.PrintMore
set_option linter.unusedVariables false
noncomputable section

def index_Sound.f (l0 : List Int) : Option Bool := IS.index_Sound.f 1000 l0
theorem index_Sound.calls (A0 : Option Addr) (c0 : Nat) (l0 : List Int) (r : Bool) (w : World) (hr0 : Kd.C (Kd.int .i64) w A0 l0.length l0) (hc0 : l0.length ≤ c0) (h : index_Sound.f l0 = some r) :
    Calls Try.prog 29 #[.slice A0 l0.length c0] w fun e w' => e = .returned (.bool r) ∧ Below w.heap.size w w' :=
  IS.index_Sound.calls 1000 A0 c0 l0 r w hr0 hc0 h
end
end Go.Proofs.Ytliaemoomhfcdaa.SO
