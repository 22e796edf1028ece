/- The plain side of the statement LinTells: the document's answer decides the same as lin's Check, and tells the same acts as lin's Acts. -/
import Derived.Test.YtdblecmelmeibaaPLx5
namespace Go.Proofs.Ytdblecmelmeibaa.PL
open Go.RowKit Go.Proofs.YtdblecmelmeibaaW.PrintWords Go.Proofs.YtdblecmelmeibaaW.PrintLast Go.Proofs.YtdblecmelmeibaaW.PrintMore
set_option linter.unusedVariables false
set_option linter.unusedSimpArgs false

theorem w64 {i : Int} (h0 : -9223372036854775808 ≤ i) (h1 : i ≤ 9223372036854775807) : wrap64 i = i := by unfold wrap64; omega
theorem rd37 {l : List S37} {i : Nat} (h : i < l.length) : rd_T37 l (i : Int) = l[i] := by
  unfold rd_T37
  rw [List.getD_eq_getElem?_getD, Int.toNat_natCast, List.getElem?_eq_getElem h]; rfl
theorem rd48 {l : List S48} {i : Nat} (h : i < l.length) : rd_T48 l (i : Int) = l[i] := by
  unfold rd_T48
  rw [List.getD_eq_getElem?_getD, Int.toNat_natCast, List.getElem?_eq_getElem h]; rfl

/-! Orders, act by act. -/
def lateOf (x y : PA) : Bool := y.sure || decide (x.fr ≤ y.to)
def restOf (l : List PA) (i : Nat) (x : PA) : List PA := (l.eraseIdx i).filter (lateOf x)
def firstOf (l : List PA) (i : Nat) (x : PA) : Prop := ∀ y ∈ l.eraseIdx i, y.sure = true → x.fr ≤ y.to
theorem perm_erase : ∀ {l : List PA} {i : Nat} {x : PA}, l[i]? = some x → l.Perm (x :: l.eraseIdx i)
  | [], i, x, h => by simp at h
  | y :: l, 0, x, h => by
    simp at h
    subst h
    simp
  | y :: l, i + 1, x, h => by
    have ih := perm_erase (l := l) (i := i) (x := x) (by simpa using h)
    rw [List.eraseIdx_cons_succ]
    exact (ih.cons y).trans (List.Perm.swap _ _ _)
theorem ord_step {l : List PA} {i : Nat} {x : PA} {k fin : PK} (h : l[i]? = some x) (hf : firstOf l i x) (hb : (behindOf k x).2 = true) (ho : Ord (restOf l i x) (behindOf k x).1 fin) : Ord l k fin := by
  obtain ⟨s, rest, hp, hr, hw, hu⟩ := ho
  refine ⟨x :: s, rest ++ (l.eraseIdx i).filter (fun y => !lateOf x y), ?_, ?_, ?_, ?_⟩
  · refine List.Perm.trans ?_ (perm_erase h).symm
    rw [List.cons_append]
    refine List.Perm.cons _ ?_
    rw [← List.append_assoc]
    refine (hp.append_right _).trans ?_
    exact List.filter_append_perm _ _
  · intro y hy
    rcases List.mem_append.1 hy with hy | hy
    · exact hr y hy
    · have := (List.mem_filter.1 hy).2
      unfold lateOf at this
      simp at this
      exact this.1
  · rw [List.pairwise_cons]
    refine ⟨fun y hy => ?_, hw⟩
    have hy' : y ∈ restOf l i x := hp.mem_iff.1 (List.mem_append_left _ hy)
    obtain ⟨h1, h2⟩ := List.mem_filter.1 hy'
    unfold lateOf at h2
    rw [Bool.or_eq_true, decide_eq_true_eq] at h2
    rcases h2 with h2 | h2
    · exact hf y h1 h2
    · exact h2
  · simp only [runs]
    rw [if_pos hb]; exact hu
theorem ord_inv {l : List PA} {k fin : PK} (h : Ord l k fin) : ((∀ y ∈ l, y.sure = false) ∧ k = fin) ∨ ∃ i x, l[i]? = some x ∧ firstOf l i x ∧ (behindOf k x).2 = true ∧ Ord (restOf l i x) (behindOf k x).1 fin := by
  obtain ⟨s, rest, hp, hr, hw, hu⟩ := h
  match s, hp, hw, hu with
  | [], hp, hw, hu =>
    refine .inl ⟨fun y hy => hr y (by simpa using hp.mem_iff.2 hy), ?_⟩
    simpa [runs] using hu
  | x :: s, hp, hw, hu =>
    have hx : x ∈ l := hp.mem_iff.1 (by simp)
    obtain ⟨i, hi, hxi⟩ := List.mem_iff_getElem.1 hx
    have hget : l[i]? = some x := by rw [List.getElem?_eq_getElem hi, hxi]
    have hp2 : (s ++ rest).Perm (l.eraseIdx i) := by
      have := hp.trans (perm_erase hget)
      rw [List.cons_append] at this
      exact this.cons_inv
    rw [List.pairwise_cons] at hw
    simp only [runs] at hu
    split at hu
    · rename_i hb
      refine .inr ⟨i, x, hget, fun y hy hs => ?_, hb, ?_⟩
      · have hy' := hp2.mem_iff.2 hy
        rcases List.mem_append.1 hy' with hy' | hy'
        · exact hw.1 y hy'
        · rw [hr y hy'] at hs; cases hs
      · refine ⟨s, rest.filter (lateOf x), ?_, fun y hy => hr y (List.mem_filter.1 hy).1, hw.2, hu⟩
        have := hp2.filter (lateOf x)
        rw [List.filter_append] at this
        have e : s.filter (lateOf x) = s := List.filter_eq_self.2 (fun y hy => by
          unfold lateOf
          rw [Bool.or_eq_true, decide_eq_true_eq]
          exact .inr (hw.1 y hy))
        rwa [e] at this
    · cases hu

/-! The document's functions. -/
theorem first_loop (l : List S37) (i : Nat) (hi : i < l.length) (hl : l.length ≤ 9223372036854775807) : ∀ (d j k : Nat), j + d = l.length → 2 * d < k →
    (∀ m (h : m < l.length), m < j → m ≠ i → l[m].f5 = true → l[i].f0 ≤ l[m].f1) →
    ∃ b, lamplighterref22_first.l0 k l (i : Int) (j : Int) = some b ∧ (b = true ↔ ∀ m (h : m < l.length), m ≠ i → l[m].f5 = true → l[i].f0 ≤ l[m].f1) := by
  intro d
  induction d with
  | zero =>
    intro j k hj hk hm
    obtain ⟨k, rfl⟩ : ∃ m, k = m + 1 := ⟨k - 1, by omega⟩
    simp only [lamplighterref22_first.l0]
    rw [if_neg (by omega)]
    exact ⟨true, rfl, ⟨fun _ m h => hm m h (by omega), fun _ => rfl⟩⟩
  | succ d ih =>
    intro j k hj hk hm
    obtain ⟨k, rfl⟩ : ∃ m, k = m + 2 := ⟨k - 2, by omega⟩
    have hjl : j < l.length := by omega
    have hw : wrap64 ((j : Int) + 1) = ((j + 1 : Nat) : Int) := by rw [w64 (by omega) (by omega)]; simp
    have ih := ih (j + 1) k (by omega) (by omega)
    simp only [lamplighterref22_first.l0]
    rw [if_pos (by omega)]
    by_cases hji : (j : Int) = (i : Int)
    · rw [if_pos hji]
      simp only [lamplighterref22_first.j1]
      rw [if_neg (by simp), hw]
      exact ih (fun m h hmj hmi hs => hm m h (by omega) hmi hs)
    · rw [if_neg hji, if_pos (by omega), rd37 hjl, if_pos (by omega : (0 : Int) ≤ (i : Int)), if_pos (by omega : (i : Int) < (l.length : Int)), rd37 hi]
      simp only [lamplighterref22_first.j1]
      cases hs : l[j].f5 with
      | false =>
        rw [if_neg (by simp), if_neg (by simp), hw]
        refine ih (fun m h hmj hmi hs' => ?_)
        by_cases e : m = j
        · subst e; rw [hs] at hs'; cases hs'
        · exact hm m h (by omega) hmi hs'
      | true =>
        rw [if_pos rfl]
        by_cases ht : l[j].f1 < l[i].f0
        · rw [if_pos (decide_eq_true ht)]
          refine ⟨false, rfl, ⟨fun h => absurd h (by simp), fun h => ?_⟩⟩
          have := h j hjl (by omega) hs
          omega
        · rw [if_neg (by simpa using ht), hw]
          refine ih (fun m h hmj hmi hs' => ?_)
          by_cases e : m = j
          · subst e; omega
          · exact hm m h (by omega) hmi hs'
theorem first_is (l : List S37) (i : Nat) (hi : i < l.length) (hl : l.length ≤ 9223372036854775807) (k : Nat) (hk : 2 * l.length < k) :
    ∃ b, lamplighterref22_first.f k l (i : Int) = some b ∧ (b = true ↔ firstOf (l.map toA) i (toA l[i])) := by
  obtain ⟨b, h1, h2⟩ := first_loop l i hi hl l.length 0 k (by omega) hk (fun m h hm => by omega)
  refine ⟨b, h1, h2.trans ?_⟩
  unfold firstOf
  constructor
  · intro h y hy hs
    obtain ⟨m, hm, hmi⟩ := List.mem_eraseIdx_iff_getElem?.1 hy
    rw [List.getElem?_map, Option.map_eq_some_iff] at hmi
    obtain ⟨z, hz, rfl⟩ := hmi
    obtain ⟨hml, rfl⟩ := List.getElem?_eq_some_iff.1 hz
    exact h m hml hm hs
  · intro h m hml hmi hs
    exact h (toA l[m]) (List.mem_eraseIdx_iff_getElem?.2 ⟨m, hmi, by rw [List.getElem?_map, List.getElem?_eq_getElem hml]; rfl⟩) hs

/-- What is left behind an act, up to a place. -/
def left37 (l : List S37) (i : Nat) (x : S37) : Nat → List S37
  | 0 => []
  | n + 1 => left37 l i x n ++ (match l[n]? with
    | some y => if n ≠ i ∧ (y.f5 = true ∨ x.f0 ≤ y.f1) then [y] else []
    | none => [])
theorem left_len (l : List S37) (i : Nat) (x : S37) : ∀ n, (left37 l i x n).length ≤ n
  | 0 => by simp [left37]
  | n + 1 => by
    have := left_len l i x n
    simp only [left37, List.length_append]
    split
    · split <;> simp <;> omega
    · simp; omega
theorem left_all (l : List S37) (i : Nat) (x : S37) : ∀ n, n ≤ l.length → (left37 l i x n).map toA = (((l.take n).map toA).eraseIdx i).filter (lateOf (toA x)) := by
  intro n
  induction n with
  | zero => intro _; simp [left37]
  | succ n ih =>
    intro hn
    have hnl : n < l.length := by omega
    rw [left37, List.map_append, ih (by omega), List.getElem?_eq_getElem hnl, List.take_succ_eq_append_getElem hnl, List.map_append]
    simp only [List.map_cons, List.map_nil]
    by_cases hni : n = i
    · subst hni
      rw [if_neg (by simp), List.eraseIdx_of_length_le (by simp; omega)]
      rw [List.eraseIdx_append_of_length_le (by simp; omega)]
      have e : n - ((l.take n).map toA).length = 0 := by simp; omega
      rw [e]
      simp
    · by_cases hlt : i < n
      · rw [List.eraseIdx_append_of_lt_length (by simp; omega), List.filter_append]
        congr 1
        by_cases hc : l[n].f5 = true ∨ x.f0 ≤ l[n].f1
        · rw [if_pos ⟨hni, hc⟩]
          have : lateOf (toA x) (toA l[n]) = true := by unfold lateOf; rw [Bool.or_eq_true, decide_eq_true_eq]; exact hc
          simp [this]
        · rw [if_neg (fun h => hc h.2)]
          have : lateOf (toA x) (toA l[n]) = false := by
            cases hq : lateOf (toA x) (toA l[n]) with
            | false => rfl
            | true => unfold lateOf at hq; rw [Bool.or_eq_true, decide_eq_true_eq] at hq; exact absurd hq hc
          simp [this]
      · rw [List.eraseIdx_of_length_le (by simp; omega), List.eraseIdx_of_length_le (by simp; omega), List.filter_append]
        congr 1
        by_cases hc : l[n].f5 = true ∨ x.f0 ≤ l[n].f1
        · rw [if_pos ⟨hni, hc⟩]
          have : lateOf (toA x) (toA l[n]) = true := by unfold lateOf; rw [Bool.or_eq_true, decide_eq_true_eq]; exact hc
          simp [this]
        · rw [if_neg (fun h => hc h.2)]
          have : lateOf (toA x) (toA l[n]) = false := by
            cases hq : lateOf (toA x) (toA l[n]) with
            | false => rfl
            | true => unfold lateOf at hq; rw [Bool.or_eq_true, decide_eq_true_eq] at hq; exact absurd hq hc
          simp [this]
theorem left_less (l : List S37) (i : Nat) (hi : i < l.length) (x : S37) : (left37 l i x l.length).length < l.length := by
  have h := congrArg List.length (left_all l i x l.length (Nat.le_refl _))
  rw [List.length_map] at h
  rw [h, List.take_length]
  refine Nat.lt_of_le_of_lt (List.length_filter_le _ _) ?_
  rw [List.length_eraseIdx_of_lt (by simpa using hi), List.length_map]
  omega
theorem rest_loop (l : List S37) (i : Nat) (hi : i < l.length) (hl : l.length ≤ 1000000000) : ∀ (d j k : Nat), j + d = l.length → 2 * d < k →
    lamplighterref22_rest.l0 k l (i : Int) (left37 l i l[i] j) (j : Int) = some (left37 l i l[i] l.length) := by
  intro d
  induction d with
  | zero =>
    intro j k hj hk
    obtain ⟨k, rfl⟩ : ∃ m, k = m + 1 := ⟨k - 1, by omega⟩
    simp only [lamplighterref22_rest.l0]
    obtain rfl : j = l.length := by omega
    rw [if_neg (by omega)]
  | succ d ih =>
    intro j k hj hk
    obtain ⟨k, rfl⟩ : ∃ m, k = m + 2 := ⟨k - 2, by omega⟩
    have hjl : j < l.length := by omega
    have hw : wrap64 ((j : Int) + 1) = ((j + 1 : Nat) : Int) := by rw [w64 (by omega) (by omega)]; simp
    have ih := ih (j + 1) k (by omega) (by omega)
    have hlen := left_len l i l[i] j
    rw [left37, List.getElem?_eq_getElem hjl] at ih
    simp only [] at ih
    simp only [lamplighterref22_rest.l0]
    rw [if_pos (by omega)]
    by_cases hji : (j : Int) = (i : Int)
    · rw [if_pos hji]
      simp only [lamplighterref22_rest.j1]
      rw [if_neg (by simp), hw]
      rw [if_neg (fun h => h.1 (by omega)), List.append_nil] at ih
      exact ih
    · rw [if_neg hji, if_pos (by omega), rd37 hjl, if_pos (by omega : (0 : Int) ≤ (i : Int)), if_pos (by omega : (i : Int) < (l.length : Int)), rd37 hi]
      have hji' : j ≠ i := by omega
      simp only [lamplighterref22_rest.j1]
      by_cases hs : l[j].f5 = true
      · rw [if_pos hs, if_pos trivial, if_pos (by omega), if_pos (by omega), if_pos (by omega), rd37 hjl, hw]
        rw [if_pos ⟨hji', .inl hs⟩] at ih
        exact ih
      · rw [if_neg hs]
        by_cases ht : l[i].f0 ≤ l[j].f1
        · rw [if_pos (by simpa using ht), if_pos (by omega), if_pos (by omega), if_pos (by omega), rd37 hjl, hw]
          rw [if_pos ⟨hji', .inr ht⟩] at ih
          exact ih
        · rw [if_neg (by simpa using ht), hw]
          rw [if_neg (fun h => h.2.elim hs ht), List.append_nil] at ih
          exact ih
theorem rest_is (l : List S37) (i : Nat) (hi : i < l.length) (hl : l.length ≤ 1000000000) (k : Nat) (hk : 2 * l.length < k) :
    ∃ r, lamplighterref22_rest.f k l (i : Int) = some r ∧ r.map toA = restOf (l.map toA) i (toA l[i]) ∧ r.length < l.length := by
  refine ⟨left37 l i l[i] l.length, rest_loop l i hi hl l.length 0 k (by omega) hk, ?_, left_less l i hi _⟩
  rw [left_all l i _ _ (Nat.le_refl _), List.take_length]
  rfl

theorem fits_is (x : S37) (v : ByteArray) (b : Bool) : lamplighterref22_fits.f x.f0 x.f1 x.f2 x.f3 x.f4 x.f5 v b = some (!unfit (keyOf' v b) (toA x)) := by
  unfold lamplighterref22_fits.f unfit keyOf' toA
  simp only
  cases x.f5 with
  | false => simp
  | true =>
    cases x.f4 <;> cases b <;> by_cases h : x.f2 = 2 <;> simp [h]
def stopOf (v : ByteArray) (b : Bool) (l : List S37) (e : ByteArray) (le : Bool) : Bool := !(l.any S37.f5) && ((b == le) && (!b || (v.toList == e.toList)))
theorem stop_is (v : ByteArray) (b : Bool) (l : List S37) (e : ByteArray) (le : Bool) : stopOf v b l e le = true ↔ ((∀ y ∈ l.map toA, y.sure = false) ∧ keyOf' v b = keyOf' e le) := by
  rw [key_same]
  unfold stopOf
  rw [Bool.and_eq_true, Bool.and_eq_true, Bool.or_eq_true, Bool.not_eq_true', Bool.not_eq_true', beq_iff_eq, beq_iff_eq, List.any_eq_false]
  constructor
  · rintro ⟨h1, h2, h3⟩
    refine ⟨fun y hy => ?_, h2, fun hb => ?_⟩
    · obtain ⟨z, hz, rfl⟩ := List.mem_map.1 hy
      have := h1 z hz
      simpa [toA] using this
    · rcases h3 with h3 | h3
      · rw [hb] at h3; cases h3
      · exact (bytes_eq _ _).1 (beq_iff_eq.2 h3)
  · rintro ⟨h1, h2, h3⟩
    refine ⟨fun z hz => ?_, h2, ?_⟩
    · have := h1 (toA z) (List.mem_map_of_mem hz)
      simpa [toA] using this
    · cases b with
      | false => exact .inl rfl
      | true => exact .inr (beq_iff_eq.1 ((bytes_eq _ _).2 (h3 rfl)))
theorem scan_is (v : ByteArray) (b : Bool) (l : List S37) (e : ByteArray) (le : Bool) (hl : l.length ≤ 9223372036854775807) : ∀ (d j k : Nat), j + d = l.length →
    lamplighterref22_order.l0 (k + d + 1) v b l e le ((l.take j).any S37.f5) (j : Int) = lamplighterref22_order.j1 k v b l e le (stopOf v b l e le) := by
  intro d
  induction d with
  | zero =>
    intro j k hj
    obtain rfl : j = l.length := by omega
    rw [List.take_length]
    simp only [lamplighterref22_order.l0]
    rw [if_neg (by omega)]
    unfold stopOf
    cases l.any S37.f5 with
    | true => simp
    | false =>
      rw [if_neg (by simp)]
      cases b <;> cases le <;> simp
  | succ d ih =>
    intro j k hj
    have hjl : j < l.length := by omega
    have hw : wrap64 ((j : Int) + 1) = ((j + 1 : Nat) : Int) := by rw [w64 (by omega) (by omega)]; simp
    have ih := ih (j + 1) k (by omega)
    rw [List.take_succ_eq_append_getElem hjl, List.any_append] at ih
    rw [show k + (d + 1) + 1 = (k + d + 1) + 1 from by omega]
    generalize k + d + 1 = q at ih ⊢
    simp only [lamplighterref22_order.l0]
    rw [if_pos (by omega), hw]
    cases ha : (l.take j).any S37.f5 with
    | true =>
      rw [if_pos rfl]
      rw [ha] at ih
      simpa using ih
    | false =>
      rw [if_neg (by simp), if_pos (by omega), rd37 hjl]
      rw [ha] at ih
      simpa using ih
/-- How many rounds the order of so many acts takes. -/
def roundsOf : Nat → Nat
  | 0 => 20
  | n + 1 => roundsOf n + 5 * (n + 1) + 20
theorem rounds_ge : ∀ n, 2 * n + 20 ≤ roundsOf n
  | 0 => by simp [roundsOf]
  | n + 1 => by have := rounds_ge n; simp only [roundsOf]; omega
/-- An act that may be the first one. -/
def OkAt (v : ByteArray) (b : Bool) (l : List S37) (e : ByteArray) (le : Bool) (m : Nat) : Prop :=
  ∃ x, (l.map toA)[m]? = some x ∧ firstOf (l.map toA) m x ∧ (behindOf (keyOf' v b) x).2 = true ∧ Ord (restOf (l.map toA) m x) (behindOf (keyOf' v b) x).1 (keyOf' e le)
theorem pick_loop (n : Nat) (e : ByteArray) (le : Bool) (hrec : ∀ (l : List S37) (v : ByteArray) (b : Bool) (k : Nat), l.length ≤ n → roundsOf n ≤ k → ∃ r, lamplighterref22_order.f k v b l e le = some r ∧ (r = true ↔ Ord (l.map toA) (keyOf' v b) (keyOf' e le)))
    (v : ByteArray) (b : Bool) (l : List S37) (hl : l.length ≤ n + 1) (hs : l.length ≤ 1000000000) : ∀ (d i k : Nat), i + d = l.length → roundsOf n + 4 * d + 1 ≤ k → (∀ m, m < i → ¬ OkAt v b l e le m) →
    ∃ r, lamplighterref22_order.l1 k v b l e le (i : Int) = some r ∧ (r = true ↔ ∃ m, OkAt v b l e le m) := by
  intro d
  induction d with
  | zero =>
    intro i k hi hk hno
    obtain ⟨k, rfl⟩ : ∃ m, k = m + 1 := ⟨k - 1, by omega⟩
    simp only [lamplighterref22_order.l1]
    rw [if_neg (by omega)]
    refine ⟨false, rfl, ⟨fun h => absurd h (by simp), ?_⟩⟩
    rintro ⟨m, hm⟩
    obtain ⟨x, hx, _⟩ := hm
    have hml : m < l.length := by simpa using (List.getElem?_eq_some_iff.1 hx).1
    exact absurd ⟨x, hx, ‹_›⟩ (hno m (by omega))
  | succ d ih =>
    intro i k hi hk hno
    have hg := rounds_ge n
    obtain ⟨k, rfl⟩ : ∃ m, k = m + 4 := ⟨k - 4, by omega⟩
    have hil : i < l.length := by omega
    have hw : wrap64 ((i : Int) + 1) = ((i + 1 : Nat) : Int) := by rw [w64 (by omega) (by omega)]; simp
    have hget : (l.map toA)[i]? = some (toA l[i]) := by rw [List.getElem?_map, List.getElem?_eq_getElem hil]; rfl
    have skip : ¬ OkAt v b l e le i → ∀ k', roundsOf n + 4 * d + 1 ≤ k' → ∃ r, lamplighterref22_order.l1 k' v b l e le ((i + 1 : Nat) : Int) = some r ∧ (r = true ↔ ∃ m, OkAt v b l e le m) := by
      intro hn k' hk'
      refine ih (i + 1) k' (by omega) hk' (fun m hm => ?_)
      by_cases hmi : m = i
      · subst hmi; exact hn
      · exact hno m (by omega)
    obtain ⟨b1, hb1, hf1⟩ := first_is l i hil (by omega) (k + 3) (by omega)
    simp only [lamplighterref22_order.l1]
    rw [if_pos (by omega), if_pos (by omega), rd37 hil, hb1, fits_is]
    simp only [Option.bind_some]
    have inv : ∀ x, (l.map toA)[i]? = some x → x = toA l[i] := fun x hx => by rw [hget] at hx; exact (Option.some.inj hx).symm
    cases b1 with
    | false =>
      rw [if_neg (by simp)]
      simp only [lamplighterref22_order.j3, if_true]
      rw [hw]
      refine skip ?_ _ (by omega)
      rintro ⟨x, hx, h1, _⟩
      obtain rfl := inv x hx
      exact absurd (hf1.2 h1) (by simp)
    | true =>
      rw [if_pos rfl]
      have hfirst := hf1.1 rfl
      cases hu : unfit (keyOf' v b) (toA l[i]) with
      | true =>
        rw [if_neg (by simp)]
        simp only [lamplighterref22_order.j3, if_true]
        rw [hw]
        refine skip ?_ _ (by omega)
        rintro ⟨x, hx, _, h2, _⟩
        obtain rfl := inv x hx
        rw [behindOf, if_pos hu] at h2
        cases h2
      | false =>
        rw [if_pos (by simp)]
        have hbe : behindOf (keyOf' v b) (toA l[i]) = if l[i].f2 = 1 then (⟨l[i].f3, true⟩, true) else if l[i].f2 = 3 then (⟨⟨#[]⟩, false⟩, true) else (keyOf' v b, l[i].f2 == 2) := by
          rw [behindOf, if_neg (by rw [hu]; simp)]; rfl
        by_cases hlow : l[i].f2 < 1
        · rw [if_pos hlow]
          simp only [lamplighterref22_order.j3, if_true]
          rw [hw]
          refine skip ?_ _ (by omega)
          rintro ⟨x, hx, _, h2, _⟩
          obtain rfl := inv x hx
          rw [hbe, if_neg (by omega), if_neg (by omega)] at h2
          simp at h2
          omega
        · rw [if_neg hlow]
          by_cases hhigh : l[i].f2 > 3
          · rw [decide_eq_true hhigh]
            simp only [lamplighterref22_order.j3, if_true]
            rw [hw]
            refine skip ?_ _ (by omega)
            rintro ⟨x, hx, _, h2, _⟩
            obtain rfl := inv x hx
            rw [hbe, if_neg (by omega), if_neg (by omega)] at h2
            simp at h2
            omega
          · rw [decide_eq_false hhigh]
            obtain ⟨r, hr, hrm, hrl⟩ := rest_is l i hil hs k (by omega)
            have fin : ∀ (v' : ByteArray) (b' : Bool), behindOf (keyOf' v b) (toA l[i]) = (keyOf' v' b', true) →
                ∃ q, lamplighterref22_order.j5 (k + 1) v b l e le (i : Int) v' b' = some q ∧ (q = true ↔ ∃ m, OkAt v b l e le m) := by
              intro v' b' hbb
              obtain ⟨q, hq, hqo⟩ := hrec r v' b' k (by omega) (by omega)
              simp only [lamplighterref22_order.j5]
              rw [hr]
              simp only [Option.bind_some]
              rw [hq]
              simp only [Option.bind_some]
              rw [hrm] at hqo
              cases q with
              | true =>
                rw [if_pos rfl]
                refine ⟨true, rfl, fun _ => ⟨i, _, hget, hfirst, by rw [hbb], by rw [hbb]; exact hqo.1 rfl⟩, fun _ => rfl⟩
              | false =>
                rw [if_neg (by simp), hw]
                refine skip ?_ _ (by omega)
                rintro ⟨x, hx, _, _, h4⟩
                obtain rfl := inv x hx
                rw [hbb] at h4
                exact absurd (hqo.2 h4) (by simp)
            simp only [lamplighterref22_order.j3]
            rw [if_neg (by simp)]
            by_cases h1 : l[i].f2 = 1
            · rw [if_pos h1]
              simp only [lamplighterref22_order.j4]
              rw [if_neg (by omega)]
              exact fin _ _ (by rw [hbe, if_pos h1]; rfl)
            · rw [if_neg h1]
              simp only [lamplighterref22_order.j4]
              by_cases h3 : l[i].f2 = 3
              · rw [if_pos h3]
                exact fin _ _ (by rw [hbe, if_neg h1, if_pos h3]; rfl)
              · rw [if_neg h3]
                exact fin _ _ (by rw [hbe, if_neg h1, if_neg h3]; simp; omega)
theorem order_is (e : ByteArray) (le : Bool) : ∀ (n : Nat) (l : List S37) (v : ByteArray) (b : Bool) (k : Nat), n ≤ 1000000 → l.length ≤ n → roundsOf n ≤ k →
    ∃ r, lamplighterref22_order.f k v b l e le = some r ∧ (r = true ↔ Ord (l.map toA) (keyOf' v b) (keyOf' e le)) := by
  have main : ∀ (l : List S37) (v : ByteArray) (b : Bool) (k : Nat), l.length ≤ 1000000 →
      (∀ k', k ≤ k' → ∃ r, lamplighterref22_order.l1 k' v b l e le 0 = some r ∧ (r = true ↔ ∃ m, OkAt v b l e le m)) → ∀ k', k + l.length + 3 ≤ k' →
      ∃ r, lamplighterref22_order.f k' v b l e le = some r ∧ (r = true ↔ Ord (l.map toA) (keyOf' v b) (keyOf' e le)) := by
    intro l v b k hl h k' hk'
    obtain ⟨q, rfl⟩ : ∃ q, k' = q + 1 + l.length + 1 + 1 := ⟨k' - l.length - 3, by omega⟩
    simp only [lamplighterref22_order.f]
    have hsc := scan_is v b l e le (by omega) l.length 0 (q + 1) (by omega)
    simp only [List.take_zero, List.any_nil] at hsc
    have e0 : ((0 : Nat) : Int) = 0 := rfl
    rw [e0] at hsc
    rw [hsc]
    simp only [lamplighterref22_order.j1]
    cases hst : stopOf v b l e le with
    | true =>
      rw [if_pos rfl]
      refine ⟨true, rfl, fun _ => ?_, fun _ => rfl⟩
      obtain ⟨h1, h2⟩ := (stop_is v b l e le).1 hst
      exact ⟨[], l.map toA, by simp, h1, .nil, by rw [h2]; rfl⟩
    | false =>
      rw [if_neg (by simp)]
      obtain ⟨r, h1, h2⟩ := h q (by omega)
      refine ⟨r, h1, h2.trans ⟨?_, fun ho => ?_⟩⟩
      · rintro ⟨m, x, hx, hf, hb, ho⟩
        exact ord_step hx hf hb ho
      · rcases ord_inv ho with h3 | ⟨m, x, hx, hf, hb, ho⟩
        · have := (stop_is v b l e le).2 h3
          rw [hst] at this; cases this
        · exact ⟨m, x, hx, hf, hb, ho⟩
  intro n
  induction n with
  | zero =>
    intro l v b k hn hl hk
    have : l = [] := List.eq_nil_of_length_eq_zero (by omega)
    subst this
    refine main [] v b 1 (by simp) (fun k' hk' => ?_) k (by simp [roundsOf] at hk ⊢; omega)
    obtain ⟨k', rfl⟩ : ∃ m, k' = m + 1 := ⟨k' - 1, by omega⟩
    simp only [lamplighterref22_order.l1]
    rw [if_neg (by simp)]
    refine ⟨false, rfl, fun h => absurd h (by simp), ?_⟩
    rintro ⟨m, x, hx, _⟩
    simp at hx
  | succ n ih =>
    intro l v b k hn hl hk
    simp only [roundsOf] at hk
    refine main l v b (roundsOf n + 4 * (n + 1) + 1) (by omega) (fun k' hk' => ?_) k (by omega)
    exact pick_loop n e le (fun l v b k hl hk => ih l v b k (by omega) hl hk) v b l hl (by omega) l.length 0 k' (by omega) (by omega) (fun m hm => by omega)

theorem check_same (v : ByteArray) (b : Bool) (l : List S37) (e : ByteArray) (le : Bool) (hv : v.size ≤ 1000) (hl : ∀ x ∈ l, x.f3.size ≤ 1000) (h6 : l.length ≤ 6) (k : Nat) (hk : roundsOf 6 ≤ k) :
    ∃ r, lin_Check.f v b l e le = some r ∧ lamplighterref22_Check.f k v b l e le = some r := by
  obtain ⟨r, h1, h2⟩ := order_is e le 6 l v b k (by omega) h6 hk
  refine ⟨r, ?_, ?_⟩
  · unfold lin_Check.f
    rw [if_pos ⟨hv, hl⟩]
    congr 1
    have : Can v b (l.map toA) e le ↔ r = true := by
      rw [can_iff, h2]
      exact ⟨fun h => h.2, fun h => ⟨by simp; omega, h⟩⟩
    cases r with
    | true => simp [this.2 rfl]
    | false => simpa using fun h => absurd (this.1 h) (by simp)
  · unfold lamplighterref22_Check.f
    rw [if_pos (by omega), h1]
    rfl
theorem same_loop (l : List S37) (hl : l.length ≤ 1000000000) : ∀ (d j k : Nat), j + d = l.length → d < k → lamplighterref22_Same.l0 k l l (j : Int) = some true := by
  intro d
  induction d with
  | zero =>
    intro j k hj hk
    obtain ⟨k, rfl⟩ : ∃ m, k = m + 1 := ⟨k - 1, by omega⟩
    simp only [lamplighterref22_Same.l0]
    rw [if_neg (by omega)]
  | succ d ih =>
    intro j k hj hk
    obtain ⟨k, rfl⟩ : ∃ m, k = m + 1 := ⟨k - 1, by omega⟩
    have hw : wrap64 ((j : Int) + 1) = ((j + 1 : Nat) : Int) := by rw [w64 (by omega) (by omega)]; simp
    simp only [lamplighterref22_Same.l0]
    rw [if_pos (by omega), if_pos (by omega), if_pos (by omega), if_neg (by simp), hw]
    exact ih (j + 1) k (by omega) (by omega)
theorem same_true (l : List S37) (hl : l.length ≤ 1000000000) (k : Nat) (hk : l.length < k) : lamplighterref22_Same.f k l l = some true := by
  unfold lamplighterref22_Same.f
  rw [if_pos rfl]
  exact same_loop l hl l.length 0 k (by omega) hk
def shortD (l : List S37) (i : Nat) (m : Int) : Bool := (l.drop i).all (fun x => decide (x.f3.size ≤ 100)) && decide ((l.length : Int) ≤ m)
theorem short_loop (l : List S37) (m : Int) (hl : l.length ≤ 9223372036854775807) : ∀ (d i k : Nat), i + d = l.length → d < k → lamplighterref22_Short.l0 k l m (i : Int) = some (shortD l i m) := by
  intro d
  induction d with
  | zero =>
    intro i k hi hk
    obtain ⟨k, rfl⟩ : ∃ m, k = m + 1 := ⟨k - 1, by omega⟩
    obtain rfl : i = l.length := by omega
    simp only [lamplighterref22_Short.l0]
    rw [if_neg (by omega)]
    unfold shortD
    rw [List.drop_length]
    simp
  | succ d ih =>
    intro i k hi hk
    obtain ⟨k, rfl⟩ : ∃ m, k = m + 1 := ⟨k - 1, by omega⟩
    have hil : i < l.length := by omega
    have hw : wrap64 ((i : Int) + 1) = ((i + 1 : Nat) : Int) := by rw [w64 (by omega) (by omega)]; simp
    have hs : shortD l i m = (decide (l[i].f3.size ≤ 100) && shortD l (i + 1) m) := by
      unfold shortD
      rw [List.drop_eq_getElem_cons hil, List.all_cons, Bool.and_assoc]
    simp only [lamplighterref22_Short.l0]
    rw [if_pos (by omega), if_pos (by omega), rd37 hil]
    by_cases h : (l[i].f3.size : Int) > 100
    · rw [if_pos h, hs]
      have : decide (l[i].f3.size ≤ 100) = false := by simp; omega
      rw [this]; rfl
    · rw [if_neg h, hw, ih (i + 1) k (by omega) (by omega), hs]
      have : decide (l[i].f3.size ≤ 100) = true := by simp; omega
      rw [this]; rfl
theorem kinds_loop (l : List S48) (m : Int) (hl : l.length ≤ 9223372036854775807) : ∀ (d i k : Nat), i + d = l.length → 2 * d < k → ∃ r, lamplighterref22_Kinds.l0 k l m (i : Int) = some r ∧ (r = true → (l.length : Int) ≤ m) := by
  intro d
  induction d with
  | zero =>
    intro i k hi hk
    obtain ⟨k, rfl⟩ : ∃ m, k = m + 1 := ⟨k - 1, by omega⟩
    simp only [lamplighterref22_Kinds.l0]
    rw [if_neg (by omega)]
    exact ⟨_, rfl, fun h => of_decide_eq_true h⟩
  | succ d ih =>
    intro i k hi hk
    obtain ⟨k, rfl⟩ : ∃ m, k = m + 2 := ⟨k - 2, by omega⟩
    have hil : i < l.length := by omega
    have hw : wrap64 ((i : Int) + 1) = ((i + 1 : Nat) : Int) := by rw [w64 (by omega) (by omega)]; simp
    have stop : ∀ b, ∃ r, lamplighterref22_Kinds.j1 (k + 1) l m (i : Int) b = some r ∧ (r = true → (l.length : Int) ≤ m) := by
      intro b
      simp only [lamplighterref22_Kinds.j1]
      cases b with
      | true => exact ⟨false, by rw [if_pos rfl], fun h => by cases h⟩
      | false =>
        rw [if_neg (by simp), hw]
        exact ih (i + 1) k (by omega) (by omega)
    simp only [lamplighterref22_Kinds.l0]
    rw [if_pos (by omega), if_pos (by omega)]
    split
    · exact stop _
    · split
      · exact stop _
      · split
        · exact stop _
        · exact stop _
theorem tells_true (v : ByteArray) (b : Bool) (l : List S37) (e : ByteArray) (le : Bool) (evs : List S48) (key : ByteArray) (hl : l.length ≤ 9223372036854775807) (hle : evs.length ≤ 9223372036854775807) :
    lamplighterlaw22_LinTells.f (l.length + 2 * evs.length + 2000) v b l e le evs key = some true := by
  unfold lamplighterlaw22_LinTells.f lamplighterlaw22_awake.f
  obtain ⟨k, hk⟩ : ∃ k, k = l.length + 2 * evs.length + 1999 := ⟨_, rfl⟩
  rw [show l.length + 2 * evs.length + 2000 = k + 1 from by omega]
  simp only [Option.bind_some]
  have up : lamplighterlaw22_LinTells.j0 (k + 1) v b l e le evs key true true = some true := by
    simp only [lamplighterlaw22_LinTells.j0, if_true]
  by_cases h1 : (v.size : Int) > 100
  · rw [if_pos h1]; exact up
  rw [if_neg h1]
  by_cases h2 : (e.size : Int) > 100
  · rw [if_pos h2]; exact up
  rw [if_neg h2]
  have hsh : lamplighterref22_Short.f (k + 1) l 6 = some (shortD l 0 6) := short_loop l 6 hl l.length 0 _ (by omega) (by omega)
  rw [hsh]
  simp only [Option.bind_some]
  cases hs : shortD l 0 6 with
  | false => rw [if_neg (by simp)]; exact up
  | true =>
    rw [if_pos rfl]
    unfold shortD at hs
    rw [Bool.and_eq_true, List.drop_zero, List.all_eq_true, decide_eq_true_eq] at hs
    have hsz : ∀ x ∈ l, x.f3.size ≤ 1000 := fun x hx => by have := hs.1 x hx; simp at this; omega
    obtain ⟨r, hr, hrl⟩ : ∃ r, lamplighterref22_Kinds.f (k + 1) evs 200 = some r ∧ (r = true → (evs.length : Int) ≤ 200) := kinds_loop evs 200 hle evs.length 0 _ (by omega) (by omega)
    rw [hr]
    simp only [Option.bind_some]
    cases r with
    | false => rw [if_neg (by simp)]; exact up
    | true =>
      rw [if_pos rfl]
      have h200 := hrl rfl
      by_cases h3 : (key.size : Int) > 100
      · rw [decide_eq_true h3]; exact up
      rw [decide_eq_false h3]
      simp only [lamplighterlaw22_LinTells.j0]
      rw [if_neg (by simp), if_pos trivial]
      obtain ⟨r, hc1, hc2⟩ := check_same v b l e le (by omega) hsz (by omega) k (by simp only [roundsOf]; omega)
      rw [hc1]
      simp only [Option.bind_some]
      rw [hc2]
      simp only [Option.bind_some, beq_self_eq_true, if_true]
      have ha : lin_Acts.f evs key = some ((actsTo (evs.map toE) key evs.length).map ofA) := by unfold lin_Acts.f; rw [if_pos (by omega)]
      have hb : lamplighterref22_Acts.f evs key = some ((actsTo (evs.map toE) key evs.length).map ofA) := by unfold lamplighterref22_Acts.f; rw [if_pos (by omega)]
      rw [ha, hb]
      simp only [Option.bind_some]
      have hlen := acts_len (evs.map toE) key evs.length
      rw [same_true _ (by rw [List.length_map]; omega) k (by rw [List.length_map]; omega)]
      rfl

end Go.Proofs.Ytdblecmelmeibaa.PL
