/- Where the index is sound a look from the root on ends where one from the first leaf on does: the statement on plain lists. -/
import Derived.Test.YtliaemoomhfcdaaROx1
import Derived.Test.YtliaemoomhfcdaaRootsQ
namespace Go.Proofs.Ytliaemoomhfcdaa
open Go.RowKit Go.Proofs.YtliaemoomhfcdaaW.PrintWords
set_option linter.unusedVariables false
set_option linter.unusedSimpArgs false
set_option maxRecDepth 1000000

theorem super_len {ws : List Int} (h : (superRead ws).2.2 = 0) : 32 ≤ ws.length := by
  unfold superRead at h
  by_cases h1 : ws.length < 32
  · rw [if_pos h1] at h; cases h
  · omega
theorem roots_j0 (ws : List Int) (key : ByteArray) (s : Bool) (hs : s = false → ws.length ≤ 1000 ∧ checkRead ws = 0 ∧ ((superRead ws).2.1 = 1 ∨ ∃ (n : Nat) (l : List Int), Lv ws n l ∧ LCh ws (n : Int) (superRead ws).2.1 l ∧ l ≠ [] ∧ n ≠ 0)) :
    RO.lamplighterlaw15_IndexRoots.j0 1 ws key true s = some true := by
  rw [RO.lamplighterlaw15_IndexRoots.j0]
  cases s with
  | true => rw [if_pos rfl]
  | false =>
    rw [if_neg (by simp)]
    obtain ⟨hn, hc, hr⟩ := hs rfl
    have hn2 : ws.length ≤ 1000000000 := by omega
    obtain ⟨e1, e2, e3⟩ := roots_find key hn hc hr
    have h32 := super_len e1
    unfold SN.super_Read.f
    rw [if_pos hn2]
    simp only [Option.bind_some]
    unfold AW.index_Find.f
    rw [if_pos hn2, if_pos hn2]
    simp only [Option.bind_some, List.nil_append, List.length_nil]
    rw [e3, if_pos (by omega)]
    rw [if_pos (by omega), if_pos trivial, if_pos e1, if_pos e2, if_pos e2, if_pos rfl]
    unfold LC.arena_Check.f
    rw [if_pos hn2, hc]
    simp only [Option.bind_some]
    rw [if_pos trivial]
    unfold SO.index_Sound.f
    show Option.bind (IS.index_Sound.f 1000 (ws.set 3 1)) _ = _
    rw [sound_bare hn hc]
    rfl
theorem indexRoots_pure (ws : List Int) (key : ByteArray) : ∃ k, RO.lamplighterlaw15_IndexRoots.f k ws key = some true := by
  refine ⟨1, ?_⟩
  unfold RO.lamplighterlaw15_IndexRoots.f
  rw [awake15]
  simp only [Option.bind_some]
  by_cases h1 : (ws.length : Int) > 1000
  · rw [if_pos h1]; exact roots_j0 ws key true (fun h => by cases h)
  rw [if_neg h1]
  by_cases h2 : (key.size : Int) > 100
  · rw [if_pos h2]; exact roots_j0 ws key true (fun h => by cases h)
  rw [if_neg h2]
  obtain ⟨b, hb, hf⟩ := sound_f ws (by omega)
  unfold SO.index_Sound.f
  rw [hb]
  simp only [Option.bind_some]
  refine roots_j0 ws key _ (fun h => ?_)
  have hb1 : b = true := by cases b <;> simp_all
  exact ⟨by omega, (hf hb1).1, (hf hb1).2⟩
end Go.Proofs.Ytliaemoomhfcdaa
