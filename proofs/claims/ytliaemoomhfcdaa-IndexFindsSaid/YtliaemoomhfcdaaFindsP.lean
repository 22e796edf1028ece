/- In a sound arena a look for a key, from a leaf on, ends at the only leaf that may have it: the statement on plain lists. -/
import Derived.Test.YtliaemoomhfcdaaFIx1
import Derived.Test.YtliaemoomhfcdaaEndsP
namespace Go.Proofs.Ytliaemoomhfcdaa
open Go.RowKit Go.Proofs.YtliaemoomhfcdaaW.PrintWords
set_option linter.unusedVariables false
set_option linter.unusedSimpArgs false
set_option maxRecDepth 1000000

theorem in_l0 (l : List Int) (x : Int) (hn : l.length ≤ 1000000000) : ∀ (n i : Nat), l.length - i = n → i ≤ l.length → ∀ k, n < k → FI.lamplighterref10_In.l0 k l x (i : Int) = some ((l.drop i).contains x) := by
  intro n
  induction n with
  | zero =>
    intro i hd hi k hk
    obtain ⟨k, rfl⟩ : ∃ m, k = m + 1 := ⟨k - 1, by omega⟩
    rw [FI.lamplighterref10_In.l0, if_neg (by omega), List.drop_eq_nil_of_le (by omega)]
    rfl
  | succ n ih =>
    intro i hd hi k hk
    obtain ⟨k, rfl⟩ : ∃ m, k = m + 1 := ⟨k - 1, by omega⟩
    have hlt : i < l.length := by omega
    rw [FI.lamplighterref10_In.l0, if_pos (by omega), if_pos (by omega), rd_drop hlt, List.contains_cons]
    by_cases he : rd l (i : Int) = x
    · rw [if_pos he, he]; simp
    · rw [if_neg he, wrap_succ hlt hn, ih (i + 1) (by omega) (by omega) k (by omega)]
      rw [show (x == rd l (i : Int)) = false from by simpa using fun e => he e.symm, Bool.false_or]
theorem in_f (l : List Int) (x : Int) (k : Nat) (hn : l.length ≤ 1000000000) (hk : l.length < k) : FI.lamplighterref10_In.f k l x = some (l.contains x) := in_l0 l x hn l.length 0 (by omega) (by omega) k hk
theorem finds_j1 (ws l : List Int) (a1 : Int) (key : ByteArray) (s : Bool) (k : Nat) (hk : 1001 ≤ k) (hn : ws.length ≤ 1000) (hc : checkRead ws = 0) (hl : leavesRead ws = some l)
    (hs : s = false → l.contains (wrap64 a1) = true ∧ ltS key (lowAt ws (wrap64 a1)) = false) : FI.lamplighterlaw15_IndexFinds.j1 (k + 1) ws a1 key true l s = some true := by
  rw [FI.lamplighterlaw15_IndexFinds.j1]
  cases s with
  | true => rw [if_pos rfl]
  | false =>
    rw [if_neg (by simp)]
    obtain ⟨hin, hlow⟩ := hs rfl
    have hn2 : ws.length ≤ 1000000000 := by omega
    obtain ⟨l', hl', ho⟩ := look_parts hc
    rw [hl] at hl'
    injection hl' with hl'
    subst hl'
    have hlen := leaves_len hl
    generalize wrap64 a1 = b at hin hlow ⊢
    obtain ⟨p, t, hpt⟩ := List.append_of_mem (List.contains_iff_mem.1 hin)
    obtain ⟨q, r, hqr, e1, e2, e3, ⟨f4, last4, e4⟩, e5⟩ := end_leaf hl ho hpt hlow
    have hch := leaves_ch hl
    have ho2 := ho
    rw [hpt] at hch ho2
    obtain ⟨f2, last2, ho3⟩ := leavesOk_suffix p _ _ ho2
    have hfind : findRead ws b key 0 = (endOf ws key (b :: t) 0, 0) := find_end (b :: t) b f2 last2 (Ch_suffix p _ hch) ho3 (by simp) hlow 600 (by
      have : (b :: t).length ≤ l.length := by rw [hpt]; simp
      omega)
    generalize endOf ws key (b :: t) 0 = y at hfind hqr e1 e2 e3 e4 e5
    have hy : y ∈ l := by rw [hqr]; simp
    obtain ⟨k, rfl⟩ : ∃ m, k = m + 1 := ⟨k - 1, by omega⟩
    obtain ⟨_, y0, y1, y2, y3, y4⟩ := e3
    have hlowy := leavesOk_mem _ _ _ ho y hy
    unfold AW.index_Find.f
    rw [if_pos hn2, hfind]
    simp only [Option.bind_some]
    rw [nodeRead_f k (by omega) ws y hn2]
    simp only [Option.bind_some, PNode.flat]
    rw [low_f ws y hn2, low_f ws _ hn2, hlowy]
    simp only [Option.bind_some]
    unfold FI.amap_Pairs.f FI.amap_Own.f
    rw [if_pos hn2, if_pos hn2]
    have hpairs : pairsAns ws = (l.flatMap (ownRead ws), 0) := by
      unfold pairsAns pairsRead leavesAns
      rw [if_pos hc, hl]
    have hown : ownAns ws y = (ownRead ws y, 0) := by
      unfold ownAns leavesAns
      rw [if_pos hc, hl, if_pos (List.contains_iff_mem.2 hy)]
    rw [hpairs, hown]
    simp only [Option.bind_some]
    have hfl := flatOwn_len ws l
    have hol := ownRead_len ws y
    unfold FI.amap_Get.f
    rw [FI.map_to_of, FI.map_to_of, List.length_map, List.length_map, if_pos (by omega), if_pos (by omega), e5]
    simp only [Option.bind_some]
    rw [if_pos trivial, if_pos trivial, if_pos y1, if_pos trivial, if_pos trivial, in_f l y (k + 1) (by omega) (by omega), List.contains_iff_mem.2 hy]
    simp only [Option.bind_some]
    rw [if_pos trivial, if_neg (show ¬ Op.bytesLess key.toList (lowAt ws y).toList = true from by rw [show Op.bytesLess key.toList (lowAt ws y).toList = false from e1]; simp)]
    have hlast : (some ((getOf (ownRead ws y) key).2 == (getOf (ownRead ws y) key).2) : Option Bool) = some true := by simp
    by_cases h0 : (nodeRead ws y).1.next = 0
    · rw [if_pos h0, if_pos trivial]; exact hlast
    · rw [if_neg h0]
      have hnx : Op.bytesLess key.toList (lowRead ws (nodeRead ws y).1.next).1.toList = true := by
        cases r with
        | nil => exact absurd y4 h0
        | cons z r =>
          have hz : z ∈ l := by rw [hqr]; simp
          have hlz := leavesOk_mem _ _ _ ho z hz
          obtain ⟨hzn, _⟩ := y4
          rw [← hzn, hlz]
          exact e2 z List.mem_cons_self
      rw [if_pos hnx, if_pos trivial]; exact hlast
theorem finds_j0 (ws : List Int) (a1 : Int) (key : ByteArray) (s : Bool) (hs : s = false → ws.length ≤ 1000 ∧ checkRead ws = 0) : FI.lamplighterlaw15_IndexFinds.j0 2000 ws a1 key true s = some true := by
  rw [FI.lamplighterlaw15_IndexFinds.j0]
  cases s with
  | true => rw [if_pos rfl]
  | false =>
    rw [if_neg (by simp)]
    obtain ⟨hn, hc⟩ := hs rfl
    have hn2 : ws.length ≤ 1000000000 := by omega
    obtain ⟨l, hl, ho⟩ := look_parts hc
    have hlen := leaves_len hl
    unfold LC.arena_Leaves.f leavesAns
    rw [if_pos hn2, hl]
    simp only [Option.bind_some]
    rw [low_f ws _ hn2]
    simp only [Option.bind_some]
    by_cases h1 : (lowRead ws (wrap64 a1)).2 = 0
    rotate_left
    · rw [if_neg h1]
      exact finds_j1 ws l a1 key true 1998 (by omega) hn hc hl (fun h => by cases h)
    rw [if_pos h1, in_f l _ 1999 (by omega) (by omega)]
    simp only [Option.bind_some]
    by_cases h2 : l.contains (wrap64 a1) = true
    · rw [if_pos h2]
      refine finds_j1 ws l a1 key _ 1998 (by omega) hn hc hl (fun h => ⟨h2, ?_⟩)
      have := leavesOk_mem _ _ _ ho _ (List.contains_iff_mem.1 h2)
      rw [this] at h
      exact h
    · rw [if_neg h2]
      exact finds_j1 ws l a1 key true 1998 (by omega) hn hc hl (fun h => by cases h)
theorem indexFinds_pure (ws : List Int) (a1 : Int) (key : ByteArray) : ∃ k, FI.lamplighterlaw15_IndexFinds.f k ws a1 key = some true := by
  refine ⟨2000, ?_⟩
  unfold FI.lamplighterlaw15_IndexFinds.f
  rw [awake15]
  simp only [Option.bind_some]
  by_cases h1 : (ws.length : Int) > 1000
  · rw [if_pos h1]; exact finds_j0 ws a1 key true (fun h => by cases h)
  rw [if_neg h1]
  by_cases h2 : (key.size : Int) > 100
  · rw [if_pos h2]; exact finds_j0 ws a1 key true (fun h => by cases h)
  rw [if_neg h2]
  unfold LC.arena_Check.f
  rw [if_pos (by omega)]
  simp only [Option.bind_some]
  refine finds_j0 ws a1 key _ (fun h => ⟨by omega, ?_⟩)
  simpa using h
end Go.Proofs.Ytliaemoomhfcdaa
