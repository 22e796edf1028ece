/- The plain law of rising lists of blocks. -/
import Derived.Test.YtjidfnogmedgnaaAwake
namespace Go.Proofs.Ytjidfnogmedgnaa
open Go.RowKit

theorem chk_of : ∀ (l : List Int) (la : Int), (∀ u ∈ l, la < u ∧ isBlock u = true) → Rise l → chkFrom la l = true
  | [], _, _, _ => rfl
  | x :: l, la, h, hr => by
    have h0 := h x (by simp)
    have hb := h0.2
    unfold isBlock at hb
    simp only [Bool.and_eq_true, decide_eq_true_eq] at hb
    have ih := chk_of l x (fun u hu => by
      obtain ⟨t, ht, he⟩ := List.mem_iff_getElem.1 hu
      refine ⟨hr 0 (t + 1) x u (by omega) (by simp) (by rw [List.getElem?_cons_succ, List.getElem?_eq_getElem ht, he]), (h u (by simp [hu])).2⟩)
      (fun p q u v hpq hu hv => hr (p + 1) (q + 1) u v (by omega) (by simpa using hu) (by simpa using hv))
    simp only [chkFrom, ih, h0.1, hb.1, hb.2, decide_true, Bool.and_self]
theorem chk_mem {l : List Int} (h : chk l = true) : ∀ u ∈ l, 0 < u ∧ isBlock u = true := by
  intro u hu
  obtain ⟨t, ht, he⟩ := List.mem_iff_getElem.1 hu
  have := (rise_of_chk l 0 h).1 t u (by rw [List.getElem?_eq_getElem ht, he])
  simp [isBlock]; omega
theorem chk_iff (l : List Int) : chk l = true ↔ (∀ u ∈ l, isBlock u = true) ∧ Rise l := by
  constructor
  · intro h; exact ⟨fun u hu => (chk_mem h u hu).2, (rise_of_chk l 0 h).2⟩
  · rintro ⟨h1, h2⟩
    refine chk_of l 0 (fun u hu => ⟨?_, h1 u hu⟩) h2
    have := h1 u hu
    simp [isBlock] at this
    omega

theorem mem_insAt (xs : List Int) (i : Nat) (x u : Int) : u ∈ insAt xs i x ↔ u = x ∨ u ∈ xs := by
  unfold insAt
  conv => rhs; rw [← List.take_append_drop i xs]
  simp only [List.mem_append, List.mem_cons]
  grind
theorem rise_insAt {xs : List Int} {x : Int} (hr : Rise xs) (hx : x ∉ xs) : Rise (insAt xs (place xs x) x) := by
  have hs := stands_place x hr
  have hp := place_le xs x
  generalize place xs x = i at *
  have hlo : ∀ (t : Nat) (u : Int), t < i → xs[t]? = some u → u < x := hs.1
  have hhi : ∀ (t : Nat) (u : Int), i ≤ t → xs[t]? = some u → x < u := fun t u ht hu => by
    have h1 := hs.2 t u ht hu
    have h2 : u ≠ x := fun he => hx (he ▸ List.mem_of_getElem? hu)
    omega
  intro p q u v hpq hu hv
  rw [insAt_get _ _ _ hp] at hu hv
  by_cases h1 : q < i
  · rw [if_pos h1] at hv
    rw [if_pos (by omega)] at hu
    exact hr p q u v hpq hu hv
  · rw [if_neg h1] at hv
    by_cases h2 : q = i
    · rw [if_pos h2] at hv
      injection hv with hv
      subst hv
      rw [if_pos (by omega)] at hu
      exact hlo p u (by omega) hu
    · rw [if_neg h2] at hv
      by_cases h3 : p < i
      · rw [if_pos h3] at hu
        have a1 := hlo p u h3 hu
        have a2 := hhi (q - 1) v (by omega) hv
        omega
      · rw [if_neg h3] at hu
        by_cases h4 : p = i
        · rw [if_pos h4] at hu
          injection hu with hu
          subst hu
          exact hhi (q - 1) v (by omega) hv
        · rw [if_neg h4] at hu
          exact hr (p - 1) (q - 1) u v (by omega) hu hv

/-- What a gift that goes through yields. -/
theorem give_ok {xs : List Int} {x : Int} (hc : chk xs = true) (hb : isBlock x = true) (hx : isIn xs x = false) :
    ∃ l, giveOf xs x = (l, 0) ∧ chk l = true ∧ (∀ u, u ∈ l ↔ u = x ∨ u ∈ xs) ∧ l.length = xs.length + 1 := by
  have hx' : x ∉ xs := by rw [← isIn_iff, hx]; simp
  refine ⟨insAt xs (place xs x) x, by simp [giveOf, hc, hb, hx], (chk_iff _).2 ⟨fun u hu => ?_, rise_insAt ((chk_iff _).1 hc).2 hx'⟩, mem_insAt _ _ _, insAt_len _ _ _ (place_le _ _)⟩
  rw [mem_insAt] at hu
  rcases hu with rfl | hu
  · exact hb
  · exact (chk_mem hc u hu).2
theorem give_not {xs : List Int} {x : Int} (h : chk xs = false ∨ isBlock x = false ∨ isIn xs x = true) : giveOf xs x = (xs, 1) := by simp [giveOf, h]

theorem rise_tail {y : Int} {l : List Int} (h : Rise (y :: l)) : Rise l := fun p q u v hpq hu hv => h (p + 1) (q + 1) u v (by omega) (by simpa using hu) (by simpa using hv)
theorem rise_head {y : Int} {l : List Int} (h : Rise (y :: l)) : ∀ u ∈ l, y < u := fun u hu => by
  obtain ⟨t, ht, he⟩ := List.mem_iff_getElem.1 hu
  exact h 0 (t + 1) y u (by omega) (by simp) (by rw [List.getElem?_cons_succ, List.getElem?_eq_getElem ht, he])
/-- Rising lists of the same members are the same. -/
theorem rise_ext : ∀ (a b : List Int), Rise a → Rise b → (∀ u, u ∈ a ↔ u ∈ b) → a = b
  | [], [], _, _, _ => rfl
  | [], y :: b, _, _, h => by have := (h y).2 (by simp); simp at this
  | x :: a, [], _, _, h => by have := (h x).1 (by simp); simp at this
  | x :: a, y :: b, ha, hb, h => by
    have hxy : x = y := by
      have h1 := (h x).1 (by simp)
      have h2 := (h y).2 (by simp)
      simp only [List.mem_cons] at h1 h2
      rcases h1 with h1 | h1
      · exact h1
      · rcases h2 with h2 | h2
        · exact h2.symm
        · have a1 := rise_head hb x h1
          have a2 := rise_head ha y h2
          omega
    subst hxy
    rw [rise_ext a b (rise_tail ha) (rise_tail hb) (fun u => ?_)]
    have hu := h u
    simp only [List.mem_cons] at hu
    constructor
    · intro m
      have := rise_head ha u m
      rcases hu.1 (.inr m) with e | e
      · omega
      · exact e
    · intro m
      have := rise_head hb u m
      rcases hu.2 (.inr m) with e | e
      · omega
      · exact e

theorem rise_take {l : List Int} (h : Rise l) (k : Nat) : Rise (l.take k) := fun p q u v hpq hu hv => by
  rw [List.getElem?_take] at hu hv
  split at hu
  · split at hv
    · exact h p q u v hpq hu hv
    · cases hv
  · cases hu
theorem rise_drop {l : List Int} (h : Rise l) (k : Nat) : Rise (l.drop k) := fun p q u v hpq hu hv => by
  rw [List.getElem?_drop] at hu hv
  exact h (k + p) (k + q) u v (by omega) hu hv
theorem chk_take {l : List Int} (h : chk l = true) (k : Nat) : chk (l.take k) = true :=
  (chk_iff _).2 ⟨fun u hu => (chk_mem h u (List.mem_of_mem_take hu)).2, rise_take ((chk_iff _).1 h).2 k⟩
theorem chk_drop {l : List Int} (h : chk l = true) (k : Nat) : chk (l.drop k) = true :=
  (chk_iff _).2 ⟨fun u hu => (chk_mem h u (List.mem_of_mem_drop hu)).2, rise_drop ((chk_iff _).1 h).2 k⟩
theorem rise_snoc {l : List Int} {x : Int} (h : Rise l) (hx : ∀ u ∈ l, u < x) : Rise (l ++ [x]) := fun p q u v hpq hu hv => by
  rcases Nat.lt_trichotomy q l.length with hq | hq | hq
  · rw [List.getElem?_append_left hq] at hv
    rw [List.getElem?_append_left (by omega)] at hu
    exact h p q u v hpq hu hv
  · rw [List.getElem?_append_right (by omega), hq, Nat.sub_self] at hv
    simp at hv
    subst hv
    rw [List.getElem?_append_left (by omega)] at hu
    exact hx u (List.mem_of_getElem? hu)
  · rw [List.getElem?_append_right (by omega), List.getElem?_eq_none (by simp; omega)] at hv
    cases hv
theorem rise_disjoint {l : List Int} (h : Rise l) (k : Nat) {u : Int} (h1 : u ∈ l.take k) (h2 : u ∈ l.drop k) : False := by
  obtain ⟨t, ht, he⟩ := List.mem_iff_getElem.1 h1
  obtain ⟨s, hs, he'⟩ := List.mem_iff_getElem.1 h2
  rw [List.length_take] at ht
  rw [List.length_drop] at hs
  rw [List.getElem_take] at he
  rw [List.getElem_drop] at he'
  have := h t (k + s) u u (by omega) (by rw [List.getElem?_eq_getElem (by omega), he]) (by rw [List.getElem?_eq_getElem (by omega), he'])
  omega

theorem mem_freeTo (S : Nat → Bool) (u : Int) : ∀ k, u ∈ freeTo S k ↔ ∃ n : Nat, u = n ∧ 0 < n ∧ n < k ∧ S n = false
  | 0 => by simp [freeTo]
  | k + 1 => by
    rw [freeTo]
    have ih := mem_freeTo S u k
    split
    · rename_i h
      simp only [Bool.and_eq_true, decide_eq_true_eq, Bool.not_eq_true'] at h
      rw [List.mem_append, ih, List.mem_singleton]
      constructor
      · rintro (⟨n, h1, h2, h3, h4⟩ | h1)
        · exact ⟨n, h1, h2, by omega, h4⟩
        · exact ⟨k, h1, h.1, by omega, h.2⟩
      · rintro ⟨n, h1, h2, h3, h4⟩
        by_cases e : n = k
        · exact .inr (e ▸ h1)
        · exact .inl ⟨n, h1, h2, by omega, h4⟩
    · rename_i h
      simp only [Bool.and_eq_true, decide_eq_true_eq, Bool.not_eq_true', not_and, Bool.not_eq_false] at h
      rw [ih]
      constructor
      · rintro ⟨n, h1, h2, h3, h4⟩; exact ⟨n, h1, h2, by omega, h4⟩
      · rintro ⟨n, h1, h2, h3, h4⟩
        refine ⟨n, h1, h2, ?_, h4⟩
        by_cases e : n = k
        · subst e
          rw [h h2] at h4
          cases h4
        · omega
theorem rise_freeTo (S : Nat → Bool) : ∀ k, Rise (freeTo S k)
  | 0 => fun p q u v _ h => by simp [freeTo] at h
  | k + 1 => by
    rw [freeTo]
    split
    · refine rise_snoc (rise_freeTo S k) (fun u hu => ?_)
      obtain ⟨n, rfl, h1, h2, h3⟩ := (mem_freeTo S u k).1 hu
      omega
    · exact rise_freeTo S k
theorem chk_freeTo (S : Nat → Bool) (k : Nat) (hk : k ≤ 256) : chk (freeTo S k) = true :=
  (chk_iff _).2 ⟨fun u hu => by obtain ⟨n, rfl, h1, h2, h3⟩ := (mem_freeTo S u k).1 hu; simp [isBlock]; omega, rise_freeTo S k⟩
end Go.Proofs.Ytjidfnogmedgnaa
