/- A key is got from all pairs just as from the own pairs of the leaf that may have it: the statement on plain lists. -/
import Derived.Test.YtliaemoomhfcdaaBLx1
import Derived.Test.YtliaemoomhfcdaaEndsP
namespace Go.Proofs.Ytliaemoomhfcdaa
open Go.RowKit Go.Proofs.YtliaemoomhfcdaaW.PrintWords
set_option linter.unusedVariables false
set_option linter.unusedSimpArgs false
set_option maxRecDepth 1000000

/-- The last leaf that a key is not ahead of. -/
def pick (ws : List Int) (key : ByteArray) : List Int → Int → Int
  | [], d => d
  | x :: t, d => pick ws key t (if ltS key (lowAt ws x) = true then d else x)
theorem pick_app (ws : List Int) (key : ByteArray) : ∀ (a b : List Int) (d : Int), pick ws key (a ++ b) d = pick ws key b (pick ws key a d)
  | [], b, d => rfl
  | x :: t, b, d => pick_app ws key t b _
theorem pick_all (ws : List Int) (key : ByteArray) : ∀ (r : List Int) (d : Int), (∀ x ∈ r, ltS key (lowAt ws x) = true) → pick ws key r d = d
  | [], d, _ => rfl
  | x :: t, d, h => by
    rw [pick, if_pos (h x List.mem_cons_self)]
    exact pick_all ws key t d (fun y hy => h y (List.mem_cons_of_mem _ hy))
theorem first_leaf {ws l : List Int} (hl : leavesRead ws = some l) (ho : leavesOk ws true ⟨#[]⟩ l = true) (key : ByteArray) : ∃ t, l = 1 :: t ∧ ltS key (lowAt ws 1) = false := by
  have hc := leaves_ch hl
  cases l with
  | nil => exact absurd (show (1 : Int) = 0 from hc) (by decide)
  | cons x t =>
    obtain ⟨rfl, _⟩ := hc
    refine ⟨t, rfl, ?_⟩
    have h1 := (leafOk_parts (leavesOk_cons ho).1).2.2
    unfold lowsOk at h1
    rw [if_pos rfl] at h1
    have h2 : (nodeRead ws 1).1.low = 0 := of_decide_eq_true h1
    unfold lowAt lowOfP
    rw [if_pos h2]
    unfold ltS
    rw [show (((⟨#[]⟩, 0) : ByteArray × Int).1).toList = [] from by kernel_rfl]
    cases key.toList <;> rfl
theorem leaves_l0 (ws l : List Int) (key : ByteArray) (ps : List BL.S53) (hn : ws.length ≤ 1000) (hl : leavesRead ws = some l) (ho : leavesOk ws true ⟨#[]⟩ l = true) (r : Option Bool)
    (hfin : ∀ k, BL.lamplighterlaw12_AmapLeaves.l0 (k + 1) ws key true ps l (pick ws key l 1) (l.length : Int) = r) : ∀ (n i : Nat) (d : Int), l.length - i = n → i ≤ l.length → pick ws key (l.drop i) d = pick ws key l 1 → ∀ k, n < k →
    BL.lamplighterlaw12_AmapLeaves.l0 k ws key true ps l d (i : Int) = r := by
  have hlen := leaves_len hl
  intro n
  induction n with
  | zero =>
    intro i d hd hi hp k hk
    obtain ⟨k, rfl⟩ : ∃ m, k = m + 1 := ⟨k - 1, by omega⟩
    obtain rfl : i = l.length := by omega
    rw [List.drop_length] at hp
    simp only [pick] at hp
    rw [hp]
    exact hfin k
  | succ n ih =>
    intro i d hd hi hp k hk
    obtain ⟨k, rfl⟩ : ∃ m, k = m + 1 := ⟨k - 1, by omega⟩
    have hlt : i < l.length := by omega
    have hx : rd l (i : Int) ∈ l := by
      have := rd_drop hlt
      exact List.mem_of_mem_drop (this ▸ List.mem_cons_self)
    rw [rd_drop hlt] at hp
    rw [BL.lamplighterlaw12_AmapLeaves.l0, if_pos (by omega), if_pos (by omega), low_f ws _ (by omega), leavesOk_mem _ _ _ ho _ hx]
    simp only [Option.bind_some]
    rw [wrap_succ hlt (by omega)]
    simp only [pick] at hp
    generalize rd l (i : Int) = x at hp ⊢
    by_cases hk2 : ltS key (lowAt ws x) = true
    · rw [if_pos (show Op.bytesLess key.toList (lowAt ws x).toList = true from hk2)]
      rw [if_pos hk2] at hp
      exact ih (i + 1) d (by omega) (by omega) hp k (by omega)
    · rw [if_neg (show ¬ Op.bytesLess key.toList (lowAt ws x).toList = true from hk2)]
      rw [if_neg hk2] at hp
      exact ih (i + 1) x (by omega) (by omega) hp k (by omega)
theorem leaves_j0 (ws : List Int) (key : ByteArray) (s : Bool) (k : Nat) (hk0 : 1500 ≤ k) (hs : s = false → ws.length ≤ 1000) : BL.lamplighterlaw12_AmapLeaves.j0 (k + 1) ws key true s = some true := by
  rw [BL.lamplighterlaw12_AmapLeaves.j0]
  cases s with
  | true => rw [if_pos rfl]
  | false =>
    rw [if_neg (by simp)]
    have hn := hs rfl
    have hn2 : ws.length ≤ 1000000000 := by omega
    unfold BL.amap_Pairs.f pairsAns
    rw [if_pos hn2]
    simp only [Option.bind_some]
    by_cases hc : checkRead ws = 0
    rotate_left
    · rw [if_neg hc]
      rw [if_neg (show ¬ checkRead ws = 0 from hc)]
    rw [if_pos hc]
    simp only
    rw [if_pos trivial]
    obtain ⟨l, hl, ho⟩ := look_parts hc
    have hlen := leaves_len hl
    unfold LC.arena_Leaves.f pairsRead leavesAns
    rw [if_pos hn2, hl]
    simp only [Option.bind_some]
    obtain ⟨t, ht, hk1⟩ := first_leaf hl ho key
    obtain ⟨q, r, hqr, e1, e2, e3, _, e5⟩ := end_leaf (p := []) hl ho ht hk1
    generalize endOf ws key (1 :: t) 0 = y at hqr e1 e2 e3 e5
    clear e3
    have hy : y ∈ l := by rw [hqr]; simp
    have hpick : pick ws key l 1 = y := by
      rw [hqr, pick_app, pick, if_neg (by rw [e1]; simp)]
      exact pick_all ws key r y e2
    refine leaves_l0 ws l key _ hn hl ho (some true) (fun k => ?_) l.length 0 1 (by omega) (by omega) rfl _ (by omega)
    rw [hpick, BL.lamplighterlaw12_AmapLeaves.l0, if_neg (by omega)]
    have hown : ownAns ws y = (ownRead ws y, 0) := by
      unfold ownAns leavesAns
      rw [if_pos hc, hl, if_pos (List.contains_iff_mem.2 hy)]
    have hfl := flatOwn_len ws l
    have hol := ownRead_len ws y
    unfold BL.amap_Own.f BL.amap_Get.f
    rw [if_pos hn2, hown]
    simp only [Option.bind_some]
    rw [BL.map_to_of, BL.map_to_of, List.length_map, List.length_map, if_pos (by omega), if_pos (by omega), e5]
    simp only [Option.bind_some]
    rw [if_pos trivial, if_pos trivial, if_pos trivial]
    simp
theorem amapLeaves_pure (ws : List Int) (key : ByteArray) : ∃ k, BL.lamplighterlaw12_AmapLeaves.f k ws key = some true := by
  refine ⟨1999 + 1, ?_⟩
  unfold BL.lamplighterlaw12_AmapLeaves.f AZ.lamplighterlaw12_awake.f
  simp only [Option.bind_some]
  by_cases h1 : (ws.length : Int) > 1000
  · rw [if_pos h1]; exact leaves_j0 ws key true 1999 (by omega) (fun h => by cases h)
  rw [if_neg h1]
  exact leaves_j0 ws key _ 1999 (by omega) (fun h => by omega)
end Go.Proofs.Ytliaemoomhfcdaa
