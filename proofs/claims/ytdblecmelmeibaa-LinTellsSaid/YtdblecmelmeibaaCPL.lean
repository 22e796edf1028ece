/- What is told of the slices that come in, in the printed texts' own kinds. -/
import Derived.Test.YtdblecmelmeibaaPLx0
import Derived.Test.YtdblecmelmeibaaKinds
namespace Go.Proofs.Ytdblecmelmeibaa.PL
open Go.ChangeShapes Go.WideShapes Go.Deep Go.RowKit Go.Proofs.YtdblecmelmeibaaW.PrintWords Go.Proofs.Ytdblecmelmeibaa.Came
set_option linter.unusedVariables false
noncomputable section
variable {H : Type} {enc : TypeId × Value → H} {w : World} {base : Nat} {spare : Nat → Bool} {held : Bool}
def g37 (x : S37) : Prop := (Lit.int .i64 x.f0).wf = true ∧ (Lit.int .i64 x.f1).wf = true ∧ (Lit.int .i64 x.f2).wf = true ∧ x.f3.size ≤ maxLen ∧ True ∧ True
theorem came37 : Tells enc Try.prog w base spare held 37 k37 g37 :=
  tells_iso _ (fun y => ⟨y.1, y.2.1, y.2.2.1, y.2.2.2.1, y.2.2.2.2.1, y.2.2.2.2.2⟩) (fun _ => rfl) (tells_struct Try.underlying37 (by kernel_rfl) (fields_cons (tells_int Try.underlying3 (by kernel_rfl)) rfl (fields_cons (tells_int Try.underlying3 (by kernel_rfl)) rfl (fields_cons (tells_int Try.underlying3 (by kernel_rfl)) rfl (fields_cons (tells_string Try.underlying9 (by kernel_rfl)) rfl (fields_cons (tells_bool Try.underlying4 (by kernel_rfl)) rfl (fields_one (tells_bool Try.underlying4 (by kernel_rfl)) rfl)))))))
theorem open22 {r : Reach} {b0 : Nat} {v : Value} {d : DataW H} {p : List MemPlace} (hv : Value.okWide Try.prog w r b0 22 v) (h : DataW.Trod enc Try.prog w base spare held 22 v d p) :
    ∃ A c l, v = .slice A l.length c ∧ l.length ≤ c ∧ c ≤ maxLen ∧ Kd.C k37 w A l.length l ∧ ∀ y ∈ l, g37 y := came_rows Try.underlying22 came37 hv h
def g44 (x : S44) : Prop := (Lit.int .i64 x.f0).wf = true ∧ x.f1.size ≤ maxLen ∧ x.f2.size ≤ maxLen ∧ x.f3.size ≤ maxLen ∧ (Lit.int .i64 x.f4).wf = true
theorem came44 : Tells enc Try.prog w base spare held 44 k44 g44 :=
  tells_iso _ (fun y => ⟨y.1, y.2.1, y.2.2.1, y.2.2.2.1, y.2.2.2.2⟩) (fun _ => rfl) (tells_struct Try.underlying44 (by kernel_rfl) (fields_cons (tells_int Try.underlying3 (by kernel_rfl)) rfl (fields_cons (tells_string Try.underlying9 (by kernel_rfl)) rfl (fields_cons (tells_string Try.underlying9 (by kernel_rfl)) rfl (fields_cons (tells_string Try.underlying9 (by kernel_rfl)) rfl (fields_one (tells_int Try.underlying3 (by kernel_rfl)) rfl))))))
def g79 (x : S79) : Prop := x.f0.size ≤ maxLen ∧ x.f1.size ≤ maxLen
theorem came79 : Tells enc Try.prog w base spare held 79 k79 g79 :=
  tells_iso _ (fun y => ⟨y.1, y.2⟩) (fun _ => rfl) (tells_struct Try.underlying79 (by kernel_rfl) (fields_cons (tells_string Try.underlying9 (by kernel_rfl)) rfl (fields_one (tells_string Try.underlying9 (by kernel_rfl)) rfl)))
def g48 (x : S48) : Prop := (Lit.int .i64 x.f0).wf = true ∧ (Lit.int .i64 x.f1).wf = true ∧ g44 x.f2 ∧ x.f3.size ≤ maxLen ∧ True ∧ (Lit.int .i64 x.f5).wf = true ∧ (∀ y ∈ x.f6, g79 y)
theorem came48 : Tells enc Try.prog w base spare held 48 k48 g48 :=
  tells_iso _ (fun y => ⟨y.1, y.2.1, y.2.2.1, y.2.2.2.1, y.2.2.2.2.1, y.2.2.2.2.2.1, y.2.2.2.2.2.2⟩) (fun _ => rfl) (tells_struct Try.underlying48 (by kernel_rfl) (fields_cons (tells_int Try.underlying3 (by kernel_rfl)) rfl (fields_cons (tells_int Try.underlying3 (by kernel_rfl)) rfl (fields_cons came44 rfl (fields_cons (tells_string Try.underlying9 (by kernel_rfl)) rfl (fields_cons (tells_bool Try.underlying4 (by kernel_rfl)) rfl (fields_cons (tells_int Try.underlying45 (by kernel_rfl)) rfl (fields_one (tells_slice Try.underlying46 (by kernel_rfl) came79) rfl))))))))
theorem open23 {r : Reach} {b0 : Nat} {v : Value} {d : DataW H} {p : List MemPlace} (hv : Value.okWide Try.prog w r b0 23 v) (h : DataW.Trod enc Try.prog w base spare held 23 v d p) :
    ∃ A c l, v = .slice A l.length c ∧ l.length ≤ c ∧ c ≤ maxLen ∧ Kd.C k48 w A l.length l ∧ ∀ y ∈ l, g48 y := came_rows Try.underlying23 came48 hv h
end
end Go.Proofs.Ytdblecmelmeibaa.PL
