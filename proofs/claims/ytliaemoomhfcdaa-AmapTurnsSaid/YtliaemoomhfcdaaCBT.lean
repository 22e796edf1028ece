/- What is told of the slices that come in, in the printed texts' own kinds. -/
import Derived.Test.YtliaemoomhfcdaaBTx0
import Derived.Test.YtliaemoomhfcdaaMA
namespace Go.Proofs.Ytliaemoomhfcdaa.BT
open Go.ChangeShapes Go.WideShapes Go.Deep Go.RowKit Go.Proofs.YtliaemoomhfcdaaW.PrintWords Go.Proofs.Ytliaemoomhfcdaa.Came
set_option linter.unusedVariables false
set_option maxRecDepth 100000
noncomputable section
variable {H : Type} {enc : TypeId × Value → H} {w : World} {base : Nat} {spare : Nat → Bool} {held : Bool}
def g53 (x : S53) : Prop := x.f0.size ≤ maxLen ∧ x.f1.size ≤ maxLen
theorem came53 : Tells enc Try.prog w base spare held 53 k53 g53 :=
  tells_iso _ (fun y => ⟨y.1, y.2⟩) (fun _ => rfl) (tells_struct Try.underlying53 (by kernel_rfl) (fields_cons (tells_string Try.underlying9 (by kernel_rfl)) rfl (fields_one (tells_string Try.underlying9 (by kernel_rfl)) rfl)))
theorem open42 {r : Reach} {b0 : Nat} {v : Value} {d : DataW H} {p : List MemPlace} (hv : Value.okWide Try.prog w r b0 42 v) (h : DataW.Trod enc Try.prog w base spare held 42 v d p) :
    ∃ A c l, v = .slice A l.length c ∧ l.length ≤ c ∧ c ≤ maxLen ∧ Kd.C k53 w A l.length l ∧ ∀ y ∈ l, g53 y := came_rows Try.underlying42 came53 hv h
end
end Go.Proofs.Ytliaemoomhfcdaa.BT
