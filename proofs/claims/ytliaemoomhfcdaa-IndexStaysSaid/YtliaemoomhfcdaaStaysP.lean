/- A look that has ended stays there: the statement on plain lists. -/
import Derived.Test.YtliaemoomhfcdaaSTx1
import Derived.Test.YtliaemoomhfcdaaMD
namespace Go.Proofs.Ytliaemoomhfcdaa
open Go.RowKit Go.Proofs.YtliaemoomhfcdaaW.PrintWords
set_option linter.unusedVariables false
set_option linter.unusedSimpArgs false
set_option maxRecDepth 1000000

theorem awake15 : AW.lamplighterlaw15_awake.f = some true := by kernel_rfl
theorem stays_j0 (ws : List Int) (b : Int) (key : ByteArray) (lv : Int) (s : Bool) (hn : s = false → ws.length ≤ 1000) : ST.lamplighterlaw15_IndexStays.j0 1 ws b key lv true s = some true := by
  simp only [ST.lamplighterlaw15_IndexStays.j0]
  cases s with
  | true => rw [if_pos rfl]
  | false =>
    have hn2 : ws.length ≤ 1000000000 := by have := hn rfl; omega
    rw [if_neg (by simp)]
    unfold AW.index_Find.f
    rw [if_pos hn2]
    simp only [Option.bind_some]
    rcases find_cases ws b key lv with h | ⟨h1, h2⟩
    · rw [h]; rfl
    · rw [if_pos h1]
      obtain ⟨a1, a2, a3⟩ := down_stay h2
      unfold AW.index_Down.f
      rw [if_pos hn2]
      simp only [Option.bind_some]
      rw [h2]
      generalize (findRead ws b key lv).1 = at1 at a1 a2 a3 ⊢
      rw [node_f ws at1 hn2]
      simp only [Option.bind_some, PNode.flat]
      rw [low_f ws _ hn2]
      simp only [Option.bind_some]
      rw [if_pos trivial, if_pos trivial, if_pos trivial, if_pos a1, if_pos a2]
      rcases a3 with a3 | ⟨_, _, a4, _, a5⟩
      · rw [if_pos a3]
      · by_cases h0 : (nodeRead ws at1).1.next = 0
        · rw [if_pos h0]
        · rw [if_neg h0, if_pos a4]
          exact congrArg some a5
theorem indexStays_pure (ws : List Int) (b : Int) (key : ByteArray) (lv : Int) : ∃ k, ST.lamplighterlaw15_IndexStays.f k ws b key lv = some true := by
  refine ⟨1, ?_⟩
  unfold ST.lamplighterlaw15_IndexStays.f
  rw [awake15]
  simp only [Option.bind_some]
  by_cases h : (ws.length : Int) > 1000
  · rw [if_pos h]; exact stays_j0 ws b key lv true (fun hh => by cases hh)
  · rw [if_neg h]; exact stays_j0 ws b key lv _ (fun _ => by omega)
end Go.Proofs.Ytliaemoomhfcdaa
