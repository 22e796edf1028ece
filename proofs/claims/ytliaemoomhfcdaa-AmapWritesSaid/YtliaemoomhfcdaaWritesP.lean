/- What is written is got, and all other keys have what they had: the statement on plain lists. -/
import Derived.Test.YtliaemoomhfcdaaBWx2
import Derived.Test.YtliaemoomhfcdaaListP
namespace Go.Proofs.Ytliaemoomhfcdaa
open Go.RowKit Go.Proofs.YtliaemoomhfcdaaW.PrintWords
set_option linter.unusedVariables false
set_option linter.unusedSimpArgs false
set_option maxRecDepth 1000000
namespace BW
theorem rd_get {l : List S53} {i : Nat} (h : i < l.length) : (l.map toP)[i]? = some (toP (rd_T53 l (i : Int))) := by
  rw [List.getElem?_map, List.getElem?_eq_getElem h]
  unfold rd_T53
  simp [List.getD_eq_getElem?_getD, List.getElem?_eq_getElem h]
theorem rd_less {l : List S53} (h : Rise (l.map toP)) {i : Nat} (h1 : 1 ≤ i) (h2 : i < l.length) : Op.bytesLess (rd_T53 l ((i - 1 : Nat) : Int)).f0.toList (rd_T53 l (i : Int)).f0.toList = true := by
  have h3 := List.pairwise_iff_getElem.1 h (i - 1) i (by rw [List.length_map]; omega) (by rw [List.length_map]; omega) (by omega)
  have e1 := rd_get (l := l) (i := i - 1) (by omega)
  have e2 := rd_get (l := l) (i := i) h2
  rw [List.getElem?_eq_getElem (by rw [List.length_map]; omega)] at e1 e2
  injection e1 with e1
  injection e2 with e2
  rw [e1, e2] at h3
  exact h3
theorem rise_of {l : List S53} (h : ∀ i, 1 ≤ i → i < l.length → Op.bytesLess (rd_T53 l ((i - 1 : Nat) : Int)).f0.toList (rd_T53 l (i : Int)).f0.toList = true) : Rise (l.map toP) := by
  have key : ∀ d i, (hi : i + d + 1 < l.length) → ltS (toP (rd_T53 l (i : Int))).1 (toP (rd_T53 l ((i + d + 1 : Nat) : Int))).1 = true := by
    intro d
    induction d with
    | zero =>
      intro i hi
      have := h (i + 1) (by omega) (by omega)
      rw [show i + 1 - 1 = i from by omega] at this
      exact this
    | succ d ih =>
      intro i hi
      have h1 := ih i (by omega)
      have h2 := h (i + d + 1 + 1) (by omega) (by omega)
      rw [show i + d + 1 + 1 - 1 = i + d + 1 from by omega] at h2
      exact ltS_trans h1 h2
  unfold Rise
  rw [List.pairwise_iff_getElem]
  intro i j hi hj hij
  rw [List.length_map] at hi hj
  have e1 := rd_get (l := l) (i := i) hi
  have e2 := rd_get (l := l) (i := j) hj
  rw [List.getElem?_eq_getElem (by rw [List.length_map]; omega)] at e1 e2
  injection e1 with e1
  injection e2 with e2
  rw [e1, e2]
  have := key (j - i - 1) i (by omega)
  rwa [show i + (j - i - 1) + 1 = j from by omega] at this
theorem wrap_s {i n : Nat} (h : i < n) (hn : n ≤ maxLen) : wrap64 ((i : Int) + 1) = ((i + 1 : Nat) : Int) := by
  unfold maxLen at hn
  rw [w64_id (by omega) (by omega)]; rfl
theorem wrap_p {i n : Nat} (h1 : 1 ≤ i) (h : i ≤ n) (hn : n ≤ maxLen) : wrap64 ((i : Int) - 1) = ((i - 1 : Nat) : Int) := by
  unfold maxLen at hn
  rw [w64_id (by omega) (by omega)]; omega
theorem short_l0 (l : List S53) (m : Int) (hn : l.length ≤ maxLen) : ∀ (n i : Nat), l.length - i = n → i ≤ l.length → ∀ k, n < k → ∃ r, lamplighterref12_Short.l0 k l m (i : Int) = some r ∧ (r = true → (l.length : Int) ≤ m) := by
  intro n
  induction n with
  | zero =>
    intro i hd hi k hk
    obtain ⟨k, rfl⟩ : ∃ q, k = q + 1 := ⟨k - 1, by omega⟩
    rw [lamplighterref12_Short.l0, if_neg (by omega)]
    exact ⟨_, rfl, fun h => of_decide_eq_true h⟩
  | succ n ih =>
    intro i hd hi k hk
    obtain ⟨k, rfl⟩ : ∃ q, k = q + 1 := ⟨k - 1, by omega⟩
    have hlt : i < l.length := by omega
    rw [lamplighterref12_Short.l0, if_pos (by omega), if_pos (by omega)]
    split
    · exact ⟨false, rfl, fun h => by cases h⟩
    · split
      · exact ⟨false, rfl, fun h => by cases h⟩
      · rw [wrap_s hlt hn]
        exact ih (i + 1) (by omega) (by omega) k (by omega)
theorem short_f (l : List S53) (m : Int) (hn : l.length ≤ maxLen) (k : Nat) (hk : l.length < k) : ∃ r, lamplighterref12_Short.f k l m = some r ∧ (r = true → (l.length : Int) ≤ m) :=
  short_l0 l m hn l.length 0 (by omega) (by omega) k hk
end BW
section
variable (x0 a b : List BW.S53) (x1 x2 x3 x16 x18 x20 : ByteArray) (x17 x19 x21 : Bool)
theorem w_fin (h1 : a.length = b.length + 1) (h2 : b.length ≤ x0.length) (h3 : x0.length ≤ 1000) (h4 : x3.toList = x1.toList ∨ (x18 = x16 ∧ x19 = x17 ∧ x20 = x16 ∧ x21 = x17)) (s : Bool) (i : Int) (k : Nat) :
    BW.lamplighterlaw12_AmapWrites.j3 (k + 1) x0 x1 x2 x3 true a b x2 true false x16 x17 x18 x19 x20 x21 s i false = some true := by
  have hw : wrap64 ((b.length : Int) + 1) = (b.length : Int) + 1 := w64_id (by omega) (by omega)
  have hd : decide ((b.length : Int) ≤ (x0.length : Int)) = true := decide_eq_true (by omega)
  rw [BW.lamplighterlaw12_AmapWrites.j3, if_neg (by simp)]
  by_cases he : x3.toList = x1.toList
  · rw [if_pos he, if_pos rfl, if_pos rfl, if_pos rfl, if_neg (by simp), hw, if_pos (by omega), hd]
  · rcases h4 with h4 | ⟨rfl, rfl, rfl, rfl⟩
    · exact absurd h4 he
    rw [if_neg he, if_pos rfl, if_pos (by simp), if_pos rfl, if_pos rfl, if_pos rfl, if_pos rfl, if_neg (by simp), if_pos (by simp), hw, if_pos (by omega), hd]
theorem w_l1_false (h1 : a.length = b.length + 1) (h2 : b.length ≤ x0.length) (h3 : x0.length ≤ 1000) (h4 : x3.toList = x1.toList ∨ (x18 = x16 ∧ x19 = x17 ∧ x20 = x16 ∧ x21 = x17)) (i : Int) (k : Nat) :
    BW.lamplighterlaw12_AmapWrites.l1 (k + 2) x0 x1 x2 x3 true a b x2 true false x16 x17 x18 x19 x20 x21 false i = some true := by
  rw [BW.lamplighterlaw12_AmapWrites.l1]
  split <;> exact w_fin x0 a b x1 x2 x3 x16 x18 x20 x17 x19 x21 h1 h2 h3 h4 false i k
theorem w_l1_true (h1 : a.length = b.length + 1) (h2 : b.length ≤ x0.length) (h3 : x0.length ≤ 1000) (h4 : x3.toList = x1.toList ∨ (x18 = x16 ∧ x19 = x17 ∧ x20 = x16 ∧ x21 = x17)) (hr : Rise (a.map BW.toP)) :
    ∀ (n i : Nat), a.length - i = n → 1 ≤ i → i ≤ a.length → ∀ k, 2 * n + 1 < k → BW.lamplighterlaw12_AmapWrites.l1 k x0 x1 x2 x3 true a b x2 true false x16 x17 x18 x19 x20 x21 true (i : Int) = some true := by
  intro n
  induction n with
  | zero =>
    intro i hd hi hi2 k hk
    obtain ⟨k, rfl⟩ : ∃ q, k = q + 2 := ⟨k - 2, by omega⟩
    rw [BW.lamplighterlaw12_AmapWrites.l1, if_neg (by omega)]
    exact w_fin x0 a b x1 x2 x3 x16 x18 x20 x17 x19 x21 h1 h2 h3 h4 true i k
  | succ n ih =>
    intro i hd hi hi2 k hk
    obtain ⟨k, rfl⟩ : ∃ q, k = q + 2 := ⟨k - 2, by omega⟩
    have hlt : i < a.length := by omega
    rw [BW.lamplighterlaw12_AmapWrites.l1, if_pos (by omega), BW.lamplighterlaw12_AmapWrites.j3, if_pos rfl, BW.wrap_p hi (Nat.le_of_lt hlt) (by unfold maxLen; omega), if_pos (by omega), if_pos (by omega), if_pos (by omega), if_pos (by omega), if_pos (BW.rd_less hr hi hlt), BW.wrap_s hlt (by unfold maxLen; omega)]
    exact ih (i + 1) (by omega) (by omega) (by omega) k (by omega)
theorem w_l0 (h1 : a.length = b.length + 1) (h2 : b.length ≤ x0.length) (h3 : x0.length ≤ 1000) (h4 : x3.toList = x1.toList ∨ (x18 = x16 ∧ x19 = x17 ∧ x20 = x16 ∧ x21 = x17)) (hr : Rise (x0.map BW.toP) → Rise (a.map BW.toP)) :
    ∀ (n i : Nat) (s : Bool), x0.length - i = n → 1 ≤ i → (s = true → ∀ j, 1 ≤ j → j < i → j < x0.length → Op.bytesLess (BW.rd_T53 x0 ((j - 1 : Nat) : Int)).f0.toList (BW.rd_T53 x0 (j : Int)).f0.toList = true) → ∀ k, n + 2500 < k → BW.lamplighterlaw12_AmapWrites.l0 k x0 x1 x2 x3 true a b x2 true false x16 x17 x18 x19 x20 x21 s (i : Int) = some true := by
  intro n
  induction n with
  | zero =>
    intro i s hd hi hs k hk
    obtain ⟨k, rfl⟩ : ∃ q, k = q + 1 := ⟨k - 1, by omega⟩
    rw [BW.lamplighterlaw12_AmapWrites.l0, if_neg (by omega)]
    cases s with
    | false =>
      obtain ⟨k, rfl⟩ : ∃ q, k = q + 2 := ⟨k - 2, by omega⟩
      exact w_l1_false x0 a b x1 x2 x3 x16 x18 x20 x17 x19 x21 h1 h2 h3 h4 1 k
    | true => exact w_l1_true x0 a b x1 x2 x3 x16 x18 x20 x17 x19 x21 h1 h2 h3 h4 (hr (BW.rise_of fun j hj1 hj2 => hs rfl j hj1 (by omega) hj2)) (a.length - 1) 1 (by omega) (by omega) (by omega) k (by omega)
  | succ n ih =>
    intro i s hd hi hs k hk
    obtain ⟨k, rfl⟩ : ∃ q, k = q + 1 := ⟨k - 1, by omega⟩
    have hlt : i < x0.length := by omega
    rw [BW.lamplighterlaw12_AmapWrites.l0, if_pos (by omega), BW.wrap_s hlt (by unfold maxLen; omega)]
    cases s with
    | false =>
      rw [if_neg (by simp)]
      exact ih (i + 1) false (by omega) (by omega) (fun h => by cases h) k (by omega)
    | true =>
      rw [if_pos rfl, BW.wrap_p hi (Nat.le_of_lt hlt) (by unfold maxLen; omega), if_pos (by omega), if_pos (by omega), if_pos (by omega)]
      refine ih (i + 1) _ (by omega) (by omega) (fun h j hj1 hj2 hj3 => ?_) k (by omega)
      by_cases hji : j = i
      · subst hji; exact h
      · exact hs rfl j hj1 (by omega) hj3
end
theorem writes_j0 (l : List BW.S53) (key val other : ByteArray) (s : Bool) (k : Nat) (hk : 4000 ≤ k) (hs : s = false → l.length ≤ 200) : BW.lamplighterlaw12_AmapWrites.j0 (k + 1) l key val other true s = some true := by
  rw [BW.lamplighterlaw12_AmapWrites.j0]
  cases s with
  | true => rw [if_pos rfl]
  | false =>
    rw [if_neg (by simp)]
    have hn := hs rfl
    have hwl := with_len (l.map BW.toP) key val
    have hol := without_len (l.map BW.toP) key
    rw [List.length_map] at hol
    unfold BW.amap_With.f BW.amap_Without.f
    rw [if_pos (by omega), if_pos (by omega)]
    simp only [Option.bind_some]
    unfold BW.amap_Get.f
    rw [BW.map_to_of, BW.map_to_of, List.length_map, List.length_map, if_pos (by omega), if_pos (by omega), if_pos (by omega), if_pos (by omega), if_pos (by omega), get_with, get_without]
    simp only [Option.bind_some]
    refine w_l0 l _ _ key val other _ _ _ _ _ _ (by rw [List.length_map, List.length_map]; exact hwl) (by rw [List.length_map]; exact hol) (by omega) ?_ (fun h => by rw [BW.map_to_of]; exact rise_with key val h) (l.length - 1) 1 true (by omega) (by omega) (fun _ j h1 h2 => by omega) _ (by omega)
    by_cases he : other.toList = key.toList
    · exact .inl he
    · rw [get_with_other _ _ _ _ he, get_without_other _ _ _ he]
      exact .inr ⟨rfl, rfl, rfl, rfl⟩
theorem amapWrites_pure (l : List BW.S53) (key val other : ByteArray) (hl : l.length ≤ maxLen) : ∃ k, BW.lamplighterlaw12_AmapWrites.f k l key val other = some true := by
  refine ⟨l.length + 5000 + 1, ?_⟩
  unfold BW.lamplighterlaw12_AmapWrites.f AZ.lamplighterlaw12_awake.f
  simp only [Option.bind_some]
  obtain ⟨r, hr, hr2⟩ := BW.short_f l 200 hl (l.length + 5000 + 1) (by omega)
  rw [hr]
  simp only [Option.bind_some]
  have hj : ∀ s, (s = false → l.length ≤ 200) → BW.lamplighterlaw12_AmapWrites.j0 (l.length + 5000 + 1) l key val other true s = some true := fun s hs => writes_j0 l key val other s (l.length + 5000) (by omega) hs
  by_cases h0 : r = true
  rotate_left
  · rw [if_neg h0]; exact hj true (fun h => by cases h)
  rw [if_pos h0]
  have h200 : l.length ≤ 200 := by have := hr2 h0; omega
  split
  · exact hj true (fun h => by cases h)
  split
  · exact hj true (fun h => by cases h)
  exact hj _ (fun _ => h200)
end Go.Proofs.Ytliaemoomhfcdaa
