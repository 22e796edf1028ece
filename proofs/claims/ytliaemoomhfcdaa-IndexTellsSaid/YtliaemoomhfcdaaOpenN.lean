/- What is told of a node that comes in. -/
import Derived.Test.YtliaemoomhfcdaaMA
namespace Go.Proofs.Ytliaemoomhfcdaa
open Go.ChangeShapes Go.WideShapes Go.Deep Go.RowKit Go.Proofs.YtliaemoomhfcdaaW.PrintWords Go.Proofs.Ytliaemoomhfcdaa.Came
set_option maxRecDepth 100000
section
variable {H : Type} {enc : TypeId × Value → H} {w : World} {base : Nat} {spare : Nat → Bool} {held : Bool}
theorem open_node {r : Reach} {b0 : Nat} {v : Value} {d : DataW H} {p : List MemPlace} (hv : Value.okWide Try.prog w r b0 24 v) (h : DataW.Trod enc Try.prog w base spare held 24 v d p) :
    ∃ (a b c e : Int) (A : Option Addr) (cp : Nat) (l : List Int), v = .agg #[.int .i64 a, .int .i64 b, .int .i64 c, .int .i64 e, .slice A l.length cp] ∧ l.length ≤ cp ∧ Kd.C (Kd.int .i64) w A l.length l := by
  have ti : Tells enc Try.prog w base spare held 3 (Kd.int .i64) (fun n => (Lit.int .i64 n).wf = true) := tells_int Try.underlying3 (by kernel_rfl)
  have tl : Tells enc Try.prog w base spare held 22 (Kd.slice 3 (Kd.int .i64)) (fun l => ∀ y ∈ l, (Lit.int .i64 y).wf = true) := tells_slice Try.underlying22 (by kernel_rfl) ti
  have tn := tells_struct (k := Kd.pair (Kd.int .i64) (Kd.pair (Kd.int .i64) (Kd.pair (Kd.int .i64) (Kd.pair (Kd.int .i64) (Kd.slice 3 (Kd.int .i64)))))) Try.underlying24 (by kernel_rfl) (fields_cons ti rfl (fields_cons ti rfl (fields_cons ti rfl (fields_cons ti rfl (fields_one tl rfl)))))
  obtain ⟨cs, y, rfl, hk, _⟩ := came_struct Try.underlying24 tn hv h
  obtain ⟨x1, x2, e1, rfl, hk⟩ := hk
  obtain ⟨x3, x4, rfl, rfl, hk⟩ := hk
  obtain ⟨x5, x6, rfl, rfl, hk⟩ := hk
  obtain ⟨x7, x8, rfl, rfl, hk⟩ := hk
  obtain ⟨A, cp, rfl, h1, h2⟩ := hk
  refine ⟨y.1, y.2.1, y.2.2.1, y.2.2.2.1, A, cp, y.2.2.2.2, ?_, h1, h2⟩
  have e2 : cs = cs.toList.toArray := by simp
  rw [e2, e1]
  rfl
end
end Go.Proofs.Ytliaemoomhfcdaa
