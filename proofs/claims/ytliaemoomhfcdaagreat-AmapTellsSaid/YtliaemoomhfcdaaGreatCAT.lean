/- What is told of the slices that come in, in the printed texts' own kinds. -/
import Derived.Test.YtliaemoomhfcdaaGreatATx0
import Derived.Test.YtliaemoomhfcdaaGreatMA
namespace Go.Proofs.YtliaemoomhfcdaaGreat.AT
open Go.ChangeShapes Go.WideShapes Go.Deep Go.RowKit Go.Proofs.YtliaemoomhfcdaaGreatW.PrintWords Go.Proofs.YtliaemoomhfcdaaGreat.Came
set_option linter.unusedVariables false
set_option maxRecDepth 100000
noncomputable section
variable {H : Type} {enc : TypeId × Value → H} {w : World} {base : Nat} {spare : Nat → Bool} {held : Bool}
def g45 (x : S45) : Prop := x.f0.size ≤ maxLen ∧ x.f1.size ≤ maxLen
theorem came45 : Tells enc Tryz.prog w base spare held 45 k45 g45 :=
  tells_iso _ (fun y => ⟨y.1, y.2⟩) (fun _ => rfl) (tells_struct Tryz.underlying45 (by kernel_rfl) (fields_cons (tells_string Tryz.underlying9 (by kernel_rfl)) rfl (fields_one (tells_string Tryz.underlying9 (by kernel_rfl)) rfl)))
theorem open23 {r : Reach} {b0 : Nat} {v : Value} {d : DataW H} {p : List MemPlace} (hv : Value.okWide Tryz.prog w r b0 23 v) (h : DataW.Trod enc Tryz.prog w base spare held 23 v d p) :
    ∃ A c l, v = .slice A l.length c ∧ l.length ≤ c ∧ c ≤ maxLen ∧ Kd.C k45 w A l.length l ∧ ∀ y ∈ l, g45 y := came_rows Tryz.underlying23 came45 hv h
end
end Go.Proofs.YtliaemoomhfcdaaGreat.AT
