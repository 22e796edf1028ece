/- The contracts of a look at a whole arena, and of its leaves, in the printed texts' own form. -/
import Derived.Test.YtliaemoomhfcdaaMD
import Derived.Test.YtliaemoomhfcdaaMF
namespace Go.Proofs.Ytliaemoomhfcdaa.LC
open Go.RowKit Go.Proofs.YtliaemoomhfcdaaW.PrintWords Go.Proofs.YtliaemoomhfcdaaW.PrintLast Go.Proofs.YtliaemoomhfcdaaW.PrintMore
set_option linter.unusedVariables false
set_option linter.unusedSimpArgs false
section

def arena_Check.f (l0 : List Int) : Option Int := if l0.length ≤ 1000000000 then some (checkRead l0) else none
theorem arena_Check.calls (A0 : Option Addr) (c0 : Nat) (l0 : List Int) (r1 : Int) (w : World) (hr0 : Kd.C (Kd.int .i64) w A0 l0.length l0) (hc0 : l0.length ≤ c0) (h : arena_Check.f l0 = some r1) :
    Calls Try.prog 23 #[.slice A0 l0.length c0] w fun e w' => e = .returned (.int .i64 r1) ∧ Below w.heap.size w w' := by
  unfold arena_Check.f at h
  split at h
  · rename_i hs
    injection h with h
    subst h
    exact check_any A0 c0 l0 w hr0 hc0 hs
  · cases h
def arena_Leaves.f (l0 : List Int) : Option (List Int × Int) := if l0.length ≤ 1000000000 then some (leavesAns l0) else none
theorem arena_Leaves.calls (A0 : Option Addr) (c0 : Nat) (l0 : List Int) (r1 : List Int) (r2 : Int) (w : World) (hr0 : Kd.C (Kd.int .i64) w A0 l0.length l0) (hc0 : l0.length ≤ c0) (h : arena_Leaves.f l0 = some (r1, r2)) :
    Calls Try.prog 24 #[.slice A0 l0.length c0] w fun e w' => ∃ v0_ : Value, e = .returned (.tuple #[v0_, .int .i64 r2]) ∧ Kd.R (Kd.int .i64) 3 w' w.heap.size (fun _ => True) v0_ r1 ∧ Below w.heap.size w w' := by
  unfold arena_Leaves.f at h
  split at h
  · rename_i hs
    injection h with h
    have h1 : (leavesAns l0).1 = r1 := by rw [h]
    have h2 : (leavesAns l0).2 = r2 := by rw [h]
    subst h1 h2
    exact leaves_any A0 c0 l0 w hr0 hc0 hs
  · cases h
end
end Go.Proofs.Ytliaemoomhfcdaa.LC
