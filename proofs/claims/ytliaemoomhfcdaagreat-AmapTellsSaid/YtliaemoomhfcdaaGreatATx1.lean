/- Written by this session's own program (hprint.py) with the help of the kit's print. Lean checks it. -/
import Derived.Test.YtliaemoomhfcdaaGreatGivenAT
import Derived.Test.YtliaemoomhfcdaaGreatMX
import Derived.Test.YtliaemoomhfcdaaGreatATx0
namespace Go.Proofs.YtliaemoomhfcdaaGreat.AT
open Go.Proofs.YtliaemoomhfcdaaGreat.AT Go.Proofs.YtliaemoomhfcdaaGreat.AZ Go.Proofs.YtliaemoomhfcdaaGreat.RF Go.Proofs.YtliaemoomhfcdaaGreat.RK   -- OPENED
open Go.RowKit Go.Proofs.YtliaemoomhfcdaaGreatW.PrintWords Go.Proofs.YtliaemoomhfcdaaGreatW.PrintLast Go.Proofs.YtliaemoomhfcdaaGreatW.PrintMore
attribute [local go_sem] max2_int min2_int max_two min_two max_three min_three max_four min_four   -- for this text's walks alone
set_option linter.unusedVariables false
set_option linter.unusedSimpArgs false
noncomputable section

theorem eqA45 (d : Nat) (w : World) (x0 y0 : ByteArray) (x1 y1 : ByteArray) :
    (Op.equalIn (d + 2) 45 (.agg #[.string x0, .string x1]) (.agg #[.string y0, .string y1])).run Tryz.prog w = .ok (x0.toList == y0.toList && (x1.toList == y1.toList)) w := by
  refine eqA_of Tryz.underlying45 (by kernel_rfl) ?_
  refine eqf_cons (by rfl) (by go_simp; rfl) (by go_simp; rfl) (by go_simp) ?_
  exact eqf_last (by rfl) (by go_simp; rfl) (by go_simp; rfl) (by go_simp)
end
end Go.Proofs.YtliaemoomhfcdaaGreat.AT
