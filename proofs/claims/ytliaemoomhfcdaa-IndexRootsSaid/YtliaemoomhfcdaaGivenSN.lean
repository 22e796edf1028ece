/- The contracts of an arena's first block, and of a number in a list, in the printed texts' own form. -/
import Derived.Test.YtliaemoomhfcdaaGivenLC
namespace Go.Proofs.Ytliaemoomhfcdaa.SN
open Go.RowKit Go.Proofs.YtliaemoomhfcdaaW.PrintWords Go.Proofs.YtliaemoomhfcdaaW.PrintLast Go.Proofs.YtliaemoomhfcdaaW.PrintMore
set_option linter.unusedVariables false
set_option linter.unusedSimpArgs false
section

def super_Read.f (l0 : List Int) : Option (Int × Int × Int) := if l0.length ≤ 1000000000 then some (superRead l0) else none
theorem super_Read.calls (A0 : Option Addr) (c0 : Nat) (l0 : List Int) (r1 r2 r3 : Int) (w : World) (hr0 : Kd.C (Kd.int .i64) w A0 l0.length l0) (hc0 : l0.length ≤ c0) (h : super_Read.f l0 = some (r1, r2, r3)) :
    Calls Try.prog 31 #[.slice A0 l0.length c0] w fun e w' => e = .returned (.tuple #[.int .i64 r1, .int .i64 r2, .int .i64 r3]) ∧ Below w.heap.size w w' := by
  unfold super_Read.f at h
  split at h
  · rename_i hs
    injection h with h
    have h1 : (superRead l0).1 = r1 := by rw [h]
    have h2 : (superRead l0).2.1 = r2 := by rw [h]
    have h3 : (superRead l0).2.2 = r3 := by rw [h]
    subst h1 h2 h3
    exact superRead_any A0 c0 l0 w hr0 hc0 hs
  · cases h
def slices_Contains_int_int.f (l0 : List Int) (a1 : Int) : Option Bool := if l0.length ≤ 1000000000 then some (l0.contains a1) else none
theorem slices_Contains_int_int.calls (A0 : Option Addr) (c0 : Nat) (l0 : List Int) (a1 : Int) (r : Bool) (w : World) (hr0 : Kd.C (Kd.int .i64) w A0 l0.length l0) (hc0 : l0.length ≤ c0) (h : slices_Contains_int_int.f l0 a1 = some r) :
    Calls Try.prog 55 #[.slice A0 l0.length c0, .int .i64 a1] w fun e w' => e = .returned (.bool r) ∧ Below w.heap.size w w' := by
  unfold slices_Contains_int_int.f at h
  split at h
  · rename_i hs
    injection h with h
    subst h
    exact (contains_int A0 c0 l0 a1 w hr0 hc0 hs).mono (by rintro e w' ⟨rfl, hd⟩; exact ⟨rfl, hd.below⟩)
  · cases h
end
end Go.Proofs.Ytliaemoomhfcdaa.SN
