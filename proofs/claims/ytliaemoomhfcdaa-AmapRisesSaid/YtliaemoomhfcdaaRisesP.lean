/- The keys of all pairs rise, each there once, they are the leaves' own, leaf by leaf, and each is at least that from which on its leaf is: the statement on plain lists. -/
import Derived.Test.YtliaemoomhfcdaaBRx2
import Derived.Test.YtliaemoomhfcdaaRiseP
namespace Go.Proofs.Ytliaemoomhfcdaa
open Go.RowKit Go.Proofs.YtliaemoomhfcdaaW.PrintWords
set_option linter.unusedVariables false
set_option linter.unusedSimpArgs false
set_option maxRecDepth 1000000
namespace BR
theorem rd_get {l : List S53} {i : Nat} (h : i < l.length) : (l.map toP)[i]? = some (toP (rd_T53 l (i : Int))) := by
  rw [List.getElem?_map, List.getElem?_eq_getElem h]
  unfold rd_T53
  simp [List.getD_eq_getElem?_getD, List.getElem?_eq_getElem h]
theorem rd_less {l : List S53} (h : Rise (l.map toP)) {i : Nat} (h1 : 1 ≤ i) (h2 : i < l.length) : Op.bytesLess (rd_T53 l ((i - 1 : Nat) : Int)).f0.toList (rd_T53 l (i : Int)).f0.toList = true := by
  have h3 := List.pairwise_iff_getElem.1 h (i - 1) i (by rw [List.length_map]; omega) (by rw [List.length_map]; omega) (by omega)
  have e1 := rd_get (l := l) (i := i - 1) (by omega)
  have e2 := rd_get (l := l) (i := i) h2
  rw [List.getElem?_eq_getElem (by rw [List.length_map]; omega)] at e1 e2
  injection e1 with e1
  injection e2 with e2
  rw [e1, e2] at h3
  exact h3
theorem rise_of {l : List S53} (h : ∀ i, 1 ≤ i → i < l.length → Op.bytesLess (rd_T53 l ((i - 1 : Nat) : Int)).f0.toList (rd_T53 l (i : Int)).f0.toList = true) : Rise (l.map toP) := by
  have key : ∀ d i, (hi : i + d + 1 < l.length) → ltS (toP (rd_T53 l (i : Int))).1 (toP (rd_T53 l ((i + d + 1 : Nat) : Int))).1 = true := by
    intro d
    induction d with
    | zero =>
      intro i hi
      have := h (i + 1) (by omega) (by omega)
      rw [show i + 1 - 1 = i from by omega] at this
      exact this
    | succ d ih =>
      intro i hi
      have h1 := ih i (by omega)
      have h2 := h (i + d + 1 + 1) (by omega) (by omega)
      rw [show i + d + 1 + 1 - 1 = i + d + 1 from by omega] at h2
      exact ltS_trans h1 h2
  unfold Rise
  rw [List.pairwise_iff_getElem]
  intro i j hi hj hij
  rw [List.length_map] at hi hj
  have e1 := rd_get (l := l) (i := i) hi
  have e2 := rd_get (l := l) (i := j) hj
  rw [List.getElem?_eq_getElem (by rw [List.length_map]; omega)] at e1 e2
  injection e1 with e1
  injection e2 with e2
  rw [e1, e2]
  have := key (j - i - 1) i (by omega)
  rwa [show i + (j - i - 1) + 1 = j from by omega] at this
theorem wrap_s {i n : Nat} (h : i < n) (hn : n ≤ maxLen) : wrap64 ((i : Int) + 1) = ((i + 1 : Nat) : Int) := by
  unfold maxLen at hn
  rw [w64_id (by omega) (by omega)]; rfl
theorem wrap_p {i n : Nat} (h1 : 1 ≤ i) (h : i ≤ n) (hn : n ≤ maxLen) : wrap64 ((i : Int) - 1) = ((i - 1 : Nat) : Int) := by
  unfold maxLen at hn
  rw [w64_id (by omega) (by omega)]; omega
theorem same_l0 (l : List S53) (hn : l.length ≤ maxLen) : ∀ (n i : Nat), l.length - i = n → i ≤ l.length → ∀ k, n < k → lamplighterref12_Same.l0 k l l (i : Int) = some true := by
  intro n
  induction n with
  | zero =>
    intro i hd hi k hk
    obtain ⟨k, rfl⟩ : ∃ q, k = q + 1 := ⟨k - 1, by omega⟩
    rw [lamplighterref12_Same.l0, if_neg (by omega)]
  | succ n ih =>
    intro i hd hi k hk
    obtain ⟨k, rfl⟩ : ∃ q, k = q + 1 := ⟨k - 1, by omega⟩
    have hlt : i < l.length := by omega
    rw [lamplighterref12_Same.l0, if_pos (by omega), if_pos (by omega), if_pos (by omega), if_neg (by simp), wrap_s hlt hn]
    exact ih (i + 1) (by omega) (by omega) k (by omega)
theorem same_f (l : List S53) (hn : l.length ≤ maxLen) (k : Nat) (hk : l.length < k) : lamplighterref12_Same.f k l l = some true := by
  unfold lamplighterref12_Same.f
  rw [if_pos rfl]
  exact same_l0 l hn l.length 0 (by omega) (by omega) k hk
end BR
theorem rises_l1 (ps : List BR.S53) (hn : ps.length ≤ 100000) (hr : Rise (ps.map BR.toP)) : ∀ (n i : Nat), ps.length - i = n → 1 ≤ i → ∀ k, n + 100002 < k → BR.lamplighterlaw12_AmapRises.l1 k true ps ps (i : Int) = some true := by
  intro n
  induction n with
  | zero =>
    intro i hd hi k hk
    obtain ⟨k, rfl⟩ : ∃ q, k = q + 1 := ⟨k - 1, by omega⟩
    rw [BR.lamplighterlaw12_AmapRises.l1, if_neg (by omega), if_pos rfl, BR.same_f ps (by unfold maxLen; omega) k (by omega)]
    rfl
  | succ n ih =>
    intro i hd hi k hk
    obtain ⟨k, rfl⟩ : ∃ q, k = q + 1 := ⟨k - 1, by omega⟩
    have hlt : i < ps.length := by omega
    rw [BR.lamplighterlaw12_AmapRises.l1, if_pos (by omega), if_pos (by omega), BR.wrap_p hi (Nat.le_of_lt hlt) (by unfold maxLen; omega), if_pos (by omega), if_pos (by omega), if_pos (BR.rd_less hr hi hlt), BR.wrap_s hlt (by unfold maxLen; omega)]
    exact ih (i + 1) (by omega) (by omega) k (by omega)
theorem rises_l0 (ws l : List Int) (hn : ws.length ≤ 1000) (hc : checkRead ws = 0) (hl : leavesRead ws = some l) (ho : leavesOk ws true ⟨#[]⟩ l = true) (ps : List BR.S53) (hps : ps = (l.flatMap (ownRead ws)).map BR.ofP) :
    ∀ (n i : Nat), l.length - i = n → i ≤ l.length → ∀ k, n + 300000 < k → BR.lamplighterlaw12_AmapRises.l0 k ws true ps l (((l.take i).flatMap (ownRead ws)).map BR.ofP) (i : Int) = some true := by
  have hlen := leaves_len hl
  have hfl := flatOwn_len ws l
  intro n
  induction n with
  | zero =>
    intro i hd hi k hk
    obtain ⟨k, rfl⟩ : ∃ q, k = q + 1 := ⟨k - 1, by omega⟩
    obtain rfl : i = l.length := by omega
    rw [BR.lamplighterlaw12_AmapRises.l0, if_neg (by omega), List.take_length, ← hps]
    refine rises_l1 ps (by rw [hps, List.length_map]; omega) ?_ (ps.length - 1) 1 (by omega) (by omega) k ?_
    · rw [hps, BR.map_to_of]
      exact leaves_rise l 1 _ _ (leaves_ch hl) ho
    · have : ps.length ≤ 100000 := by rw [hps, List.length_map]; omega
      omega
  | succ n ih =>
    intro i hd hi k hk
    obtain ⟨k, rfl⟩ : ∃ q, k = q + 1 := ⟨k - 1, by omega⟩
    have hlt : i < l.length := by omega
    have hx : rd l (i : Int) ∈ l := by
      have := rd_drop hlt
      exact List.mem_of_mem_drop (this ▸ List.mem_cons_self)
    have hxi : l[i]? = some (rd l (i : Int)) := by
      have h1 : (l.drop i)[0]? = some (rd l (i : Int)) := by rw [rd_drop hlt]; rfl
      simpa using h1
    rw [BR.lamplighterlaw12_AmapRises.l0, if_pos (by omega), if_pos (by omega)]
    generalize rd l (i : Int) = x at hx hxi ⊢
    have hown : ownAns ws x = (ownRead ws x, 0) := by
      unfold ownAns leavesAns
      rw [if_pos hc, hl, if_pos (List.contains_iff_mem.2 hx)]
    have hol := ownRead_len ws x
    have hft := flatOwn_len ws (l.take i)
    have htl : (l.take i).length ≤ l.length := List.length_take_le' _ _
    have hlo : ∃ f last, leafOk ws f last x = true := by
      obtain ⟨p, r, hpr⟩ := List.append_of_mem hx
      rw [hpr] at ho
      obtain ⟨f2, last2, h6⟩ := leavesOk_suffix p _ _ ho
      exact ⟨f2, last2, (leavesOk_cons h6).1⟩
    obtain ⟨f2, last2, hlo⟩ := hlo
    unfold BR.amap_Own.f
    rw [if_pos (by omega), hown]
    simp only [Option.bind_some]
    rw [low_f ws _ (by omega), leavesOk_mem _ _ _ ho _ hx]
    simp only [Option.bind_some]
    rw [if_pos trivial, wrap_succ hlt (by omega), List.length_map, List.length_map, if_pos (show ((l.take i).flatMap (ownRead ws)).length + (ownRead ws x).length < 4398046511104 by omega), ← List.map_append]
    have hnext : (l.take i).flatMap (ownRead ws) ++ ownRead ws x = (l.take (i + 1)).flatMap (ownRead ws) := by
      rw [List.take_add_one, hxi, List.flatMap_append]; simp
    rw [hnext]
    have hgo := ih (i + 1) (by omega) (by omega) k (by omega)
    by_cases h0 : ((ownRead ws x).length : Int) > 0
    · rw [if_pos h0, if_pos (by omega)]
      have hfirst : Op.bytesLess (BR.rd_T53 ((ownRead ws x).map BR.ofP) 0).f0.toList (lowAt ws x).toList = false := by
        have h1 : (((ownRead ws x).map BR.ofP).map BR.toP)[0]? = some (BR.toP (BR.rd_T53 ((ownRead ws x).map BR.ofP) ((0 : Nat) : Int))) := BR.rd_get (by rw [List.length_map]; omega)
        rw [BR.map_to_of] at h1
        exact own_low hlo (List.mem_of_getElem? h1)
      rw [if_neg (by rw [hfirst]; simp)]
      exact hgo
    · rw [if_neg h0]; exact hgo
theorem amapRises_pure (ws : List Int) : ∃ k, BR.lamplighterlaw12_AmapRises.f k ws = some true := by
  obtain ⟨K, hK⟩ : ∃ K, 300100 ≤ K := ⟨400000, by omega⟩
  refine ⟨K, ?_⟩
  unfold BR.lamplighterlaw12_AmapRises.f AZ.lamplighterlaw12_awake.f
  simp only [Option.bind_some]
  by_cases h1 : (ws.length : Int) > 1000
  · rw [if_pos h1]
  rw [if_neg h1]
  have hn : ws.length ≤ 1000 := by omega
  unfold BR.amap_Pairs.f pairsAns
  rw [if_pos (by omega)]
  simp only [Option.bind_some]
  by_cases hc : checkRead ws = 0
  rotate_left
  · rw [if_neg hc, if_neg (show ¬ checkRead ws = 0 from hc), if_pos trivial, if_pos (by simp)]
    unfold LC.arena_Check.f
    rw [if_pos (by omega)]
    simp only [Option.bind_some]
    rw [bne_t hc]
  rw [if_pos hc]
  simp only
  rw [if_pos trivial]
  obtain ⟨l, hl, ho⟩ := look_parts hc
  have hlen := leaves_len hl
  unfold LC.arena_Leaves.f pairsRead leavesAns
  rw [if_pos (by omega), hl]
  simp only [Option.bind_some]
  exact rises_l0 ws l hn hc hl ho _ rfl l.length 0 (by omega) (by omega) K (by omega)
end Go.Proofs.Ytliaemoomhfcdaa
