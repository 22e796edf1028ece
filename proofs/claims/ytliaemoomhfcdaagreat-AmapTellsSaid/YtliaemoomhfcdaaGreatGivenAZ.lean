/- The calls at the head of the statements on pairs are awake. -/
import Derived.Test.YtliaemoomhfcdaaGreatAVx2
namespace Go.Proofs.YtliaemoomhfcdaaGreat.AZ
open Go.RowKit
set_option maxRecDepth 1000000
theorem awake12 : AV.lamplighterlaw12_awake.f = some true := by kernel_rfl
def lamplighterlaw12_awake.f : Option Bool := some true
theorem lamplighterlaw12_awake.calls (r : Bool) (w : World) (h : lamplighterlaw12_awake.f = some r) :
    Calls Tryz.prog 4 #[] w fun e w' => e = .returned (.bool r) ∧ Below w.heap.size w w' :=
  AV.lamplighterlaw12_awake.calls r w (awake12.trans h)
end Go.Proofs.YtliaemoomhfcdaaGreat.AZ
