/- Writes of unlike keys do not hang on their order, the last one of a key counts, and what is taken away, and was not there, changes nothing: the statement on plain lists. -/
import Derived.Test.YtliaemoomhfcdaaBTx3
import Derived.Test.YtliaemoomhfcdaaListP
namespace Go.Proofs.Ytliaemoomhfcdaa
open Go.RowKit Go.Proofs.YtliaemoomhfcdaaW.PrintWords
set_option linter.unusedVariables false
set_option linter.unusedSimpArgs false
set_option maxRecDepth 1000000
namespace BT
theorem rd_get {l : List S53} {i : Nat} (h : i < l.length) : (l.map toP)[i]? = some (toP (rd_T53 l (i : Int))) := by
  rw [List.getElem?_map, List.getElem?_eq_getElem h]
  unfold rd_T53
  simp [List.getD_eq_getElem?_getD, List.getElem?_eq_getElem h]
theorem rd_less {l : List S53} (h : Rise (l.map toP)) {i : Nat} (h1 : 1 ≤ i) (h2 : i < l.length) : Op.bytesLess (rd_T53 l ((i - 1 : Nat) : Int)).f0.toList (rd_T53 l (i : Int)).f0.toList = true := by
  have h3 := List.pairwise_iff_getElem.1 h (i - 1) i (by rw [List.length_map]; omega) (by rw [List.length_map]; omega) (by omega)
  have e1 := rd_get (l := l) (i := i - 1) (by omega)
  have e2 := rd_get (l := l) (i := i) h2
  rw [List.getElem?_eq_getElem (by rw [List.length_map]; omega)] at e1 e2
  injection e1 with e1
  injection e2 with e2
  rw [e1, e2] at h3
  exact h3
theorem rise_of {l : List S53} (h : ∀ i, 1 ≤ i → i < l.length → Op.bytesLess (rd_T53 l ((i - 1 : Nat) : Int)).f0.toList (rd_T53 l (i : Int)).f0.toList = true) : Rise (l.map toP) := by
  have key : ∀ d i, (hi : i + d + 1 < l.length) → ltS (toP (rd_T53 l (i : Int))).1 (toP (rd_T53 l ((i + d + 1 : Nat) : Int))).1 = true := by
    intro d
    induction d with
    | zero =>
      intro i hi
      have := h (i + 1) (by omega) (by omega)
      rw [show i + 1 - 1 = i from by omega] at this
      exact this
    | succ d ih =>
      intro i hi
      have h1 := ih i (by omega)
      have h2 := h (i + d + 1 + 1) (by omega) (by omega)
      rw [show i + d + 1 + 1 - 1 = i + d + 1 from by omega] at h2
      exact ltS_trans h1 h2
  unfold Rise
  rw [List.pairwise_iff_getElem]
  intro i j hi hj hij
  rw [List.length_map] at hi hj
  have e1 := rd_get (l := l) (i := i) hi
  have e2 := rd_get (l := l) (i := j) hj
  rw [List.getElem?_eq_getElem (by rw [List.length_map]; omega)] at e1 e2
  injection e1 with e1
  injection e2 with e2
  rw [e1, e2]
  have := key (j - i - 1) i (by omega)
  rwa [show i + (j - i - 1) + 1 = j from by omega] at this
theorem wrap_s {i n : Nat} (h : i < n) (hn : n ≤ maxLen) : wrap64 ((i : Int) + 1) = ((i + 1 : Nat) : Int) := by
  unfold maxLen at hn
  rw [w64_id (by omega) (by omega)]; rfl
theorem wrap_p {i n : Nat} (h1 : 1 ≤ i) (h : i ≤ n) (hn : n ≤ maxLen) : wrap64 ((i : Int) - 1) = ((i - 1 : Nat) : Int) := by
  unfold maxLen at hn
  rw [w64_id (by omega) (by omega)]; omega
theorem short_l0 (l : List S53) (m : Int) (hn : l.length ≤ maxLen) : ∀ (n i : Nat), l.length - i = n → i ≤ l.length → ∀ k, n < k → ∃ r, lamplighterref12_Short.l0 k l m (i : Int) = some r ∧ (r = true → (l.length : Int) ≤ m) := by
  intro n
  induction n with
  | zero =>
    intro i hd hi k hk
    obtain ⟨k, rfl⟩ : ∃ q, k = q + 1 := ⟨k - 1, by omega⟩
    rw [lamplighterref12_Short.l0, if_neg (by omega)]
    exact ⟨_, rfl, fun h => of_decide_eq_true h⟩
  | succ n ih =>
    intro i hd hi k hk
    obtain ⟨k, rfl⟩ : ∃ q, k = q + 1 := ⟨k - 1, by omega⟩
    have hlt : i < l.length := by omega
    rw [lamplighterref12_Short.l0, if_pos (by omega), if_pos (by omega)]
    split
    · exact ⟨false, rfl, fun h => by cases h⟩
    · split
      · exact ⟨false, rfl, fun h => by cases h⟩
      · rw [wrap_s hlt hn]
        exact ih (i + 1) (by omega) (by omega) k (by omega)
theorem short_f (l : List S53) (m : Int) (hn : l.length ≤ maxLen) (k : Nat) (hk : l.length < k) : ∃ r, lamplighterref12_Short.f k l m = some r ∧ (r = true → (l.length : Int) ≤ m) :=
  short_l0 l m hn l.length 0 (by omega) (by omega) k hk
theorem same_l0 (l : List S53) (hn : l.length ≤ maxLen) : ∀ (n i : Nat), l.length - i = n → i ≤ l.length → ∀ k, n < k → lamplighterref12_Same.l0 k l l (i : Int) = some true := by
  intro n
  induction n with
  | zero =>
    intro i hd hi k hk
    obtain ⟨k, rfl⟩ : ∃ q, k = q + 1 := ⟨k - 1, by omega⟩
    rw [lamplighterref12_Same.l0, if_neg (by omega)]
  | succ n ih =>
    intro i hd hi k hk
    obtain ⟨k, rfl⟩ : ∃ q, k = q + 1 := ⟨k - 1, by omega⟩
    have hlt : i < l.length := by omega
    rw [lamplighterref12_Same.l0, if_pos (by omega), if_pos (by omega), if_pos (by omega), if_neg (by simp), wrap_s hlt hn]
    exact ih (i + 1) (by omega) (by omega) k (by omega)
theorem same_f (l : List S53) (hn : l.length ≤ maxLen) (k : Nat) (hk : l.length < k) : lamplighterref12_Same.f k l l = some true := by
  unfold lamplighterref12_Same.f
  rw [if_pos rfl]
  exact same_l0 l hn l.length 0 (by omega) (by omega) k hk
end BT
theorem rise_eq : ∀ {l1 l2 : List KV}, Rise l1 → Rise l2 → (∀ x, x ∈ l1 ↔ x ∈ l2) → l1 = l2
  | [], [], _, _, _ => rfl
  | [], b :: t2, _, _, h => absurd ((h b).2 List.mem_cons_self) (by simp)
  | a :: t1, [], _, _, h => absurd ((h a).1 List.mem_cons_self) (by simp)
  | a :: t1, b :: t2, h1, h2, h => by
    obtain ⟨p1, q1⟩ := List.pairwise_cons.1 h1
    obtain ⟨p2, q2⟩ := List.pairwise_cons.1 h2
    have hab : a = b := by
      rcases List.mem_cons.1 ((h a).1 List.mem_cons_self) with e | e
      · exact e
      · rcases List.mem_cons.1 ((h b).2 List.mem_cons_self) with e2 | e2
        · exact e2.symm
        · have h3 := p2 a e
          rw [ltS_asymm (p1 b e2)] at h3
          cases h3
    subst hab
    rw [rise_eq q1 q2 fun x => ?_]
    constructor
    · intro hx
      rcases List.mem_cons.1 ((h x).1 (List.mem_cons_of_mem _ hx)) with e | e
      · have h3 := p1 x hx
        rw [e, ltS_irr] at h3
        cases h3
      · exact e
    · intro hx
      rcases List.mem_cons.1 ((h x).2 (List.mem_cons_of_mem _ hx)) with e | e
      · have h3 := p2 x hx
        rw [e, ltS_irr] at h3
        cases h3
      · exact e
theorem mem_without {l : List KV} {key : ByteArray} {x : KV} : x ∈ withoutOf l key ↔ x ∈ l ∧ keyIs key x = false := by
  unfold withoutOf
  rw [List.mem_filter]
  simp
theorem mem_with {l : List KV} {key val : ByteArray} {x : KV} : x ∈ withOf l key val ↔ x = (key, val) ∨ (x ∈ l ∧ keyIs key x = false) := by
  unfold withOf insOf
  rw [List.mem_append, List.mem_cons, ← mem_without]
  constructor
  · rintro (h | h | h)
    · exact .inr (List.mem_of_mem_take h)
    · exact .inl h
    · exact .inr (List.mem_of_mem_drop h)
  · rintro (h | h)
    · exact .inr (.inl h)
    · rw [← List.take_append_drop ((withoutOf l key).findIdx (keyGt key)) (withoutOf l key)] at h
      rcases List.mem_append.1 h with h | h
      · exact .inl h
      · exact .inr (.inr h)
theorem keyIs_self (key val : ByteArray) : keyIs key (key, val) = true := by simp [keyIs]
theorem keyIs_ne {a b v : ByteArray} (h : a.toList ≠ b.toList) : keyIs a (b, v) = false := by
  cases hk : keyIs a (b, v) with
  | false => rfl
  | true => exact absurd (keyIs_iff.1 hk).symm h
theorem with_turn {l : List KV} (hr : Rise l) {a b : ByteArray} (u v : ByteArray) (h : a.toList ≠ b.toList) : withOf (withOf l a u) b v = withOf (withOf l b v) a u := by
  refine rise_eq (rise_with _ _ (rise_with _ _ hr)) (rise_with _ _ (rise_with _ _ hr)) fun x => ?_
  simp only [mem_with]
  have h1 : keyIs b (a, u) = false := keyIs_ne (fun e => h e.symm)
  have h2 : keyIs a (b, v) = false := keyIs_ne h
  constructor
  · rintro (rfl | ⟨rfl | ⟨h3, h4⟩, h5⟩)
    · exact .inr ⟨.inl rfl, h2⟩
    · exact .inl rfl
    · exact .inr ⟨.inr ⟨h3, h5⟩, h4⟩
  · rintro (rfl | ⟨rfl | ⟨h3, h4⟩, h5⟩)
    · exact .inr ⟨.inl rfl, h1⟩
    · exact .inl rfl
    · exact .inr ⟨.inr ⟨h3, h5⟩, h4⟩
theorem with_last {l : List KV} (hr : Rise l) (a u v : ByteArray) : withOf (withOf l a u) a v = withOf l a v := by
  refine rise_eq (rise_with _ _ (rise_with _ _ hr)) (rise_with _ _ hr) fun x => ?_
  simp only [mem_with]
  constructor
  · rintro (h | ⟨rfl | h, h2⟩)
    · exact .inl h
    · rw [keyIs_self] at h2; cases h2
    · exact .inr h
  · rintro (h | h)
    · exact .inl h
    · exact .inr ⟨.inr h, h.2⟩
theorem get_no {l : List KV} {a : ByteArray} (h : (getOf l a).2 = false) : ∀ x ∈ l, keyIs a x = false := by
  intro x hx
  unfold getOf at h
  cases hf : l.find? (keyIs a) with
  | some y => rw [hf] at h; cases h
  | none =>
    have := List.find?_eq_none.1 hf x hx
    simpa using this
theorem without_with {l : List KV} (hr : Rise l) {a : ByteArray} (v : ByteArray) (h : (getOf l a).2 = false) : withoutOf (withOf l a v) a = l := by
  refine rise_eq (rise_without _ (rise_with _ _ hr)) hr fun x => ?_
  rw [mem_without, mem_with]
  constructor
  · rintro ⟨rfl | h2, h3⟩
    · rw [keyIs_self] at h3; cases h3
    · exact h2.1
  · intro hx
    exact ⟨.inr ⟨hx, get_no h x hx⟩, get_no h x hx⟩
theorem without_no {l : List KV} {a : ByteArray} (h : (getOf l a).2 = false) : withoutOf l a = l := by
  unfold withoutOf
  rw [List.filter_eq_self]
  intro x hx
  rw [get_no h x hx]
  rfl
theorem turns_j2 (l : List BT.S53) (a v : ByteArray) (hn : l.length ≤ 200) (hr : Rise (l.map BT.toP)) (k : Nat) (hk : 1000 ≤ k) : BT.lamplighterlaw12_AmapTurns.j2 (k + 1) l a v true (getOf (l.map BT.toP) a).2 true = some true := by
  have hw1 := with_len (l.map BT.toP) a ⟨#[49]⟩
  have hw2 := with_len (l.map BT.toP) a v
  have hw3 := with_len (withOf (l.map BT.toP) a ⟨#[49]⟩) a v
  have ho1 := without_len (l.map BT.toP) a
  have ho2 := without_len (withOf (l.map BT.toP) a ⟨#[49]⟩) a
  rw [List.length_map] at ho1
  rw [BT.lamplighterlaw12_AmapTurns.j2]
  unfold BT.amap_With.f BT.amap_Without.f
  rw [if_pos (by omega)]
  simp only [Option.bind_some]
  rw [BT.map_to_of, List.length_map, if_pos (by omega), with_last hr]
  simp only [Option.bind_some]
  rw [if_pos (by omega)]
  simp only [Option.bind_some]
  rw [BT.same_f _ (by rw [List.length_map]; unfold maxLen; omega) k (by rw [List.length_map]; omega)]
  simp only [Option.bind_some]
  cases hg : (getOf (l.map BT.toP) a).2 with
  | true => simp
  | false =>
    rw [if_neg (by simp), BT.map_to_of, List.length_map, if_pos (by omega), without_with hr v hg, without_no hg, BT.map_of_to]
    simp only [Option.bind_some]
    rw [BT.same_f l (by unfold maxLen; omega) k (by omega)]
    simp only [Option.bind_some]
    rw [if_pos trivial, if_pos (by omega)]
    simp only [Option.bind_some]
    rw [BT.same_f l (by unfold maxLen; omega) k (by omega)]
    simp
theorem turns_end (l : List BT.S53) (a b v : ByteArray) (hn : l.length ≤ 200) (hr : Rise (l.map BT.toP)) (k : Nat) (hk : 1100 ≤ k) : BT.lamplighterlaw12_AmapTurns.l0 (k + 1) l a b v true (l.length : Int) = some true := by
  have hw1 := with_len (l.map BT.toP) a ⟨#[49]⟩
  have hw2 := with_len (l.map BT.toP) b v
  have hw3 := with_len (withOf (l.map BT.toP) a ⟨#[49]⟩) b v
  have hw4 := with_len (withOf (l.map BT.toP) b v) a ⟨#[49]⟩
  have ho1 := without_len (l.map BT.toP) a
  have ho2 := without_len (l.map BT.toP) b
  have ho3 := without_len (withOf (l.map BT.toP) a ⟨#[49]⟩) b
  rw [List.length_map] at ho1 ho2
  obtain ⟨k, rfl⟩ : ∃ q, k = q + 1 := ⟨k - 1, by omega⟩
  rw [BT.lamplighterlaw12_AmapTurns.l0, if_neg (by omega)]
  unfold BT.amap_Get.f BT.amap_With.f
  rw [if_pos (by omega), if_pos (by omega)]
  simp only [Option.bind_some]
  rw [BT.map_to_of, List.length_map, if_pos (by omega)]
  simp only [Option.bind_some]
  rw [if_pos (by omega)]
  simp only [Option.bind_some]
  rw [BT.map_to_of, List.length_map, if_pos (by omega)]
  simp only [Option.bind_some]
  by_cases he : a.toList = b.toList
  · rw [if_pos he]; exact turns_j2 l a v hn hr k (by omega)
  · rw [if_neg he, ← with_turn hr _ _ he, BT.same_f _ (by rw [List.length_map]; unfold maxLen; omega) (k + 1) (by rw [List.length_map]; omega)]
    simp only [Option.bind_some]
    exact turns_j2 l a v hn hr k (by omega)
theorem turns_l0 (l : List BT.S53) (a b v : ByteArray) (hn : l.length ≤ 200) : ∀ (n i : Nat), l.length - i = n → 1 ≤ i → i ≤ l.length → (∀ j, 1 ≤ j → j < i → Op.bytesLess (BT.rd_T53 l ((j - 1 : Nat) : Int)).f0.toList (BT.rd_T53 l (j : Int)).f0.toList = true) → ∀ k, n + 1200 < k →
    BT.lamplighterlaw12_AmapTurns.l0 k l a b v true (i : Int) = some true := by
  intro n
  induction n with
  | zero =>
    intro i hd hi hi2 hs k hk
    obtain ⟨k, rfl⟩ : ∃ q, k = q + 1 := ⟨k - 1, by omega⟩
    obtain rfl : i = l.length := by omega
    exact turns_end l a b v hn (BT.rise_of hs) k (by omega)
  | succ n ih =>
    intro i hd hi hi2 hs k hk
    obtain ⟨k, rfl⟩ : ∃ q, k = q + 1 := ⟨k - 1, by omega⟩
    have hlt : i < l.length := by omega
    rw [BT.lamplighterlaw12_AmapTurns.l0, if_pos (by omega), if_pos (by omega), BT.wrap_p hi (Nat.le_of_lt hlt) (by unfold maxLen; omega), if_pos (by omega), if_pos (by omega)]
    by_cases hb : Op.bytesLess (BT.rd_T53 l ((i - 1 : Nat) : Int)).f0.toList (BT.rd_T53 l (i : Int)).f0.toList = true
    · rw [if_pos hb, BT.wrap_s hlt (by unfold maxLen; omega)]
      refine ih (i + 1) (by omega) (by omega) (by omega) (fun j hj1 hj2 => ?_) k (by omega)
      by_cases hji : j = i
      · subst hji; exact hb
      · exact hs j hj1 (by omega)
    · rw [if_neg hb]
theorem turns_j0 (l : List BT.S53) (a b v : ByteArray) (s : Bool) (k : Nat) (hk : 3000 ≤ k) (hs : s = false → l.length ≤ 200) : BT.lamplighterlaw12_AmapTurns.j0 (k + 1) l a b v true s = some true := by
  rw [BT.lamplighterlaw12_AmapTurns.j0]
  cases s with
  | true => rw [if_pos rfl]
  | false =>
    rw [if_neg (by simp)]
    have hn := hs rfl
    by_cases h0 : l.length = 0
    · have hl : l = [] := List.eq_nil_of_length_eq_zero h0
      subst hl
      obtain ⟨k, rfl⟩ : ∃ q, k = q + 1 := ⟨k - 1, by omega⟩
      have := turns_end [] a b v (by simp) (by simp [Rise]) k (by omega)
      rw [BT.lamplighterlaw12_AmapTurns.l0, if_neg (by simp)] at this ⊢
      exact this
    · exact turns_l0 l a b v hn (l.length - 1) 1 (by omega) (by omega) (by omega) (fun j h1 h2 => by omega) k (by omega)
theorem amapTurns_pure (l : List BT.S53) (a b v : ByteArray) (hl : l.length ≤ maxLen) : ∃ k, BT.lamplighterlaw12_AmapTurns.f k l a b v = some true := by
  refine ⟨l.length + 5000 + 1, ?_⟩
  unfold BT.lamplighterlaw12_AmapTurns.f AZ.lamplighterlaw12_awake.f
  simp only [Option.bind_some]
  obtain ⟨r, hr, hr2⟩ := BT.short_f l 200 hl (l.length + 5000 + 1) (by omega)
  rw [hr]
  simp only [Option.bind_some]
  have hj : ∀ s, (s = false → l.length ≤ 200) → BT.lamplighterlaw12_AmapTurns.j0 (l.length + 5000 + 1) l a b v true s = some true := fun s hs => turns_j0 l a b v s (l.length + 5000) (by omega) hs
  by_cases h0 : r = true
  rotate_left
  · rw [if_neg h0]; exact hj true (fun h => by cases h)
  rw [if_pos h0]
  have h200 : l.length ≤ 200 := by have := hr2 h0; omega
  split
  · exact hj true (fun h => by cases h)
  split
  · exact hj true (fun h => by cases h)
  exact hj _ (fun _ => h200)
end Go.Proofs.Ytliaemoomhfcdaa
