/- The contracts of a new arena, of a record's words, in the printed texts' own form. -/
import Derived.Test.YtliaemoomhfcdaaGreatAVx0
import Derived.Test.YtliaemoomhfcdaaGreatMC
namespace Go.Proofs.YtliaemoomhfcdaaGreat.AW
open Go.RowKit Go.Proofs.YtliaemoomhfcdaaGreatW.PrintWords Go.Proofs.YtliaemoomhfcdaaGreatW.PrintLast Go.Proofs.YtliaemoomhfcdaaGreatW.PrintMore
set_option linter.unusedVariables false
set_option linter.unusedSimpArgs false
section

def arena_New.f (a0 : Int) : Option (List Int × Int) := some (newAns a0)
theorem arena_New.calls (a0 : Int) (r1 : List Int) (r2 : Int) (w : World) (h : arena_New.f a0 = some (r1, r2)) :
    Calls Tryz.prog 17 #[.int .i64 a0] w fun e w' => ∃ v0_ : Value, e = .returned (.tuple #[v0_, .int .i64 r2]) ∧ Kd.R (Kd.int .i64) 3 w' w.heap.size (fun _ => True) v0_ r1 ∧ Below w.heap.size w w' := by
  unfold arena_New.f at h
  injection h with h
  have h1 : (newAns a0).1 = r1 := by rw [h]
  have h2 : (newAns a0).2 = r2 := by rw [h]
  subst h1 h2
  refine (new_any a0 w).mono ?_
  rintro e w' ⟨v, rfl, ho, hb⟩
  exact ⟨v, rfl, R_of_ints ho, hb⟩
def rec_Words.f (a0 : Int) (a1 a2 : ByteArray) (a3 : Int) : Option (List Int × Int) := some (recWordsAns ⟨a0, a1, a2, a3⟩)
theorem rec_Words.calls (a0 : Int) (a1 a2 : ByteArray) (a3 : Int) (r1 : List Int) (r2 : Int) (w : World) (h : rec_Words.f a0 a1 a2 a3 = some (r1, r2)) :
    Calls Tryz.prog 18 #[.agg #[.int .i64 a0, .string a1, .string a2, .int .i64 a3]] w fun e w' => ∃ v0_ : Value, e = .returned (.tuple #[v0_, .int .i64 r2]) ∧ Kd.V (Kd.int .i64) 3 w' w.heap.size (fun k_ => w.heap.size ≤ k_) v0_ r1 ∧ Below w.heap.size w w' := by
  unfold rec_Words.f at h
  injection h with h
  have h1 : (recWordsAns ⟨a0, a1, a2, a3⟩).1 = r1 := by rw [h]
  have h2 : (recWordsAns ⟨a0, a1, a2, a3⟩).2 = r2 := by rw [h]
  subst h1 h2
  exact recWords_any ⟨a0, a1, a2, a3⟩ w
end
end Go.Proofs.YtliaemoomhfcdaaGreat.AW
