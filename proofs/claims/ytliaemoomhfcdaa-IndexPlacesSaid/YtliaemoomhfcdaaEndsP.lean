/- Plain facts on the pairs of a sound arena: each leaf's own keys lie from its first one on, and ahead of the next leaf's. -/
import Derived.Test.YtliaemoomhfcdaaLowsF
import Derived.Test.YtliaemoomhfcdaaPairsW
namespace Go.Proofs.Ytliaemoomhfcdaa
open Go.RowKit Go.Proofs.YtliaemoomhfcdaaW.PrintWords
set_option linter.unusedVariables false
set_option linter.unusedSimpArgs false
def endOf (ws : List Int) (key : ByteArray) : List Int → Int → Int
  | [], d => d
  | x :: t, d => if ltS key (lowAt ws x) = true then d else endOf ws key t x
theorem find_end {ws : List Int} {key : ByteArray} : ∀ (t : List Int) (b : Int) (f : Bool) (last : ByteArray), Ch ws b t → leavesOk ws f last t = true → t ≠ [] → ltS key (lowAt ws b) = false →
    ∀ n, t.length ≤ n → findGo ws key 0 n b = (endOf ws key t 0, 0)
  | [], _, _, _, _, _, hne, _, _, _ => absurd rfl hne
  | c :: t, b, f, last, hc, ho, _, hk, n, hn => by
    obtain ⟨rfl, h0, h1, h2, h3, ht⟩ := hc
    obtain ⟨ho1, ho2⟩ := leavesOk_cons ho
    simp only [List.length_cons] at hn
    obtain ⟨n, rfl⟩ : ∃ m, n = m + 1 := ⟨n - 1, by omega⟩
    have hnext : (nodeRead ws c).1.next ≠ 0 → fromRead ws (nodeRead ws c).1.next = (0, lowAt ws (nodeRead ws c).1.next, true) := by
      intro hz
      cases t with
      | nil => exact absurd ht hz
      | cons d t =>
        obtain ⟨rfl, k0, k1, k2, k3, kt⟩ := ht
        exact from_leaf k1 (leafOk_parts (leavesOk_cons ho2).1).2.1 k2
    have hd := down_leaf (key := key) h1 h2 h3 hnext
    rw [endOf, if_neg (by rw [hk]; simp)]
    have hstay : downRead ws c key 0 = (c, 0) → findGo ws key 0 (n + 1) c = (c, 0) := by
      intro hh
      rw [findGo_succ, hh]
      simp
    cases t with
    | nil => rw [if_pos (show (nodeRead ws c).1.next = 0 from ht)] at hd; rw [hstay hd]; rfl
    | cons d t =>
      have ht' := ht
      obtain ⟨rfl, k0, k1, k2, k3, kt⟩ := ht
      rw [if_neg k0] at hd
      rw [endOf]
      cases hkn : ltS key (lowAt ws (nodeRead ws c).1.next) with
      | true => rw [hkn, if_pos rfl] at hd; rw [hstay hd, if_pos rfl]
      | false =>
        rw [hkn, if_neg (by simp)] at hd
        rw [if_neg (by simp), findGo_succ, hd]
        simp only
        rw [if_neg (by simp), if_neg h3]
        have := find_end _ _ false _ ht' ho2 (by simp) hkn n (by simp only [List.length_cons] at hn ⊢; omega)
        rw [this, endOf, if_neg (by rw [hkn]; simp)]
theorem Ch_suffix {ws : List Int} {x : Int} {t : List Int} : ∀ (p : List Int) (b : Int), Ch ws b (p ++ x :: t) → Ch ws x (x :: t)
  | [], b, h => by obtain ⟨rfl, _⟩ := id h; exact h
  | y :: p, b, h => Ch_suffix p _ h.2.2.2.2.2
theorem leavesOk_suffix {ws : List Int} {x : Int} {t : List Int} : ∀ (p : List Int) (f : Bool) (last : ByteArray), leavesOk ws f last (p ++ x :: t) = true → ∃ f2 last2, leavesOk ws f2 last2 (x :: t) = true
  | [], f, last, h => ⟨f, last, h⟩
  | y :: p, f, last, h => leavesOk_suffix p _ _ (leavesOk_cons h).2
theorem Ch.ok {ws : List Int} : ∀ {t : List Int} {b : Int}, Ch ws b t → ∀ x ∈ t, (nodeRead ws x).2 = 0 ∧ (nodeRead ws x).1.level = 0 ∧ x ≠ 0
  | [], _, _, x, hx => by cases hx
  | y :: t, b, h, x, hx => by
    obtain ⟨rfl, h0, h1, h2, _, ht⟩ := h
    rcases List.mem_cons.1 hx with rfl | hx
    · exact ⟨h1, h2, h0⟩
    · exact Ch.ok ht x hx
theorem ltS_l {a b c d : ByteArray} (h : a.toList = c.toList) (h2 : b.toList = d.toList) : ltS a b = ltS c d := by unfold ltS; rw [h, h2]
/-- Where a look ends: all leaves behind are from keys behind the key on. -/
theorem endOf_parts {ws : List Int} {key : ByteArray} : ∀ (t : List Int) (f : Bool) (last : ByteArray) (d : Int), leavesOk ws f last t = true →
    ∃ q r, t = q ++ r ∧ (∀ x ∈ r, ltS key (lowAt ws x) = true) ∧ ((q = [] ∧ endOf ws key t d = d) ∨ ∃ p, q = p ++ [endOf ws key t d] ∧ ltS key (lowAt ws (endOf ws key t d)) = false)
  | [], _, _, d, _ => ⟨[], [], rfl, fun _ h => (by cases h), .inl ⟨rfl, rfl⟩⟩
  | x :: t, f, last, d, h => by
    obtain ⟨h1, h2⟩ := leavesOk_cons h
    rw [endOf]
    cases hk : ltS key (lowAt ws x) with
    | true =>
      refine ⟨[], x :: t, rfl, fun y hy => ?_, .inl ⟨rfl, by rw [if_pos rfl]⟩⟩
      rcases List.mem_cons.1 hy with rfl | hy
      · exact hk
      · exact ltS_trans hk (lows_above t _ h2 y hy)
    | false =>
      rw [if_neg (by simp)]
      obtain ⟨q, r, hqr, hr, hq⟩ := endOf_parts t _ _ x h2
      refine ⟨x :: q, r, by rw [hqr]; rfl, hr, .inr ?_⟩
      rcases hq with ⟨hq0, he⟩ | ⟨p, hq0, he⟩
      · exact ⟨[], by rw [he, hq0]; rfl, by rw [he]; exact hk⟩
      · exact ⟨x :: p, by rw [hq0]; rfl, he⟩
/-- Slots that are as they are to be: no key is ahead of the first one. -/
theorem slots_low {ws : List Int} {low : ByteArray} : ∀ (sl : List Int) (f : Bool) (last : ByteArray), slotsOk ws low f last sl = true → ∀ s ∈ sl, ltS (recRead ws s).1.key low = false
  | [], _, _, _, s, hs => by cases hs
  | x :: t, f, last, h, s, hs => by
    simp only [slotsOk, Bool.and_eq_true] at h
    rcases List.mem_cons.1 hs with rfl | hs
    · have := h.1
      simp only [slotOk, Bool.and_eq_true, Bool.not_eq_true'] at this
      exact this.1.2
    · exact slots_low t _ _ h.2 s hs
theorem leafOk_slots {ws : List Int} {f : Bool} {last : ByteArray} {b : Int} (h : leafOk ws f last b = true) : slotsOk ws (lowAt ws b) true (lowAt ws b) (plainOf (nodeRead ws b).1.slots) = true := by
  unfold leafOk at h
  simp only [Bool.and_eq_true] at h
  exact h.2
/-- A leaf's own pairs are of its slots, and ahead of the next leaf. -/
theorem ownOf_mem {ne : Int} {high : ByteArray} {rc : Int → PRec × Int} : ∀ {l : List Int} {p : KV}, p ∈ ownOf ne high rc l → (ne = 0 ∨ ltS p.1 high = true) ∧ ∃ s ∈ l, p = ((rc s).1.key, (rc s).1.val)
  | [], p, h => by cases h
  | s :: t, p, h => by
    simp only [ownOf] at h
    split at h
    · cases h
    · rename_i hn
      rcases List.mem_cons.1 h with rfl | h
      · refine ⟨?_, s, List.mem_cons_self, rfl⟩
        by_cases h0 : ne = 0
        · exact .inl h0
        · refine .inr ?_
          cases hk : ltS (rc s).1.key high with
          | true => rfl
          | false => exact absurd ⟨h0, hk⟩ hn
      · obtain ⟨a, s2, hs2, e⟩ := ownOf_mem h
        exact ⟨a, s2, List.mem_cons_of_mem _ hs2, e⟩
theorem own_low {ws : List Int} {f : Bool} {last : ByteArray} {b : Int} (h : leafOk ws f last b = true) {p : KV} (hp : p ∈ ownRead ws b) : ltS p.1 (lowAt ws b) = false := by
  obtain ⟨_, s, hs, rfl⟩ := ownOf_mem hp
  exact slots_low _ _ _ (leafOk_slots h) s hs
theorem own_high {ws : List Int} {b : Int} (h : (nodeRead ws b).1.next ≠ 0) {p : KV} (hp : p ∈ ownRead ws b) : ltS p.1 (lowRead ws (nodeRead ws b).1.next).1 = true := by
  obtain ⟨a, _⟩ := ownOf_mem hp
  exact a.resolve_left h
theorem keyIs_eq {key : ByteArray} {p : KV} (h : keyIs key p = true) : p.1.toList = key.toList := by simpa [keyIs] using h
/-- Leaves ahead of one that the key is not ahead of have not got it. -/
theorem before_none {ws : List Int} {key : ByteArray} {y : Int} {r : List Int} (hy : ltS key (lowAt ws y) = false) : ∀ (p : List Int) (b : Int) (f : Bool) (last : ByteArray), Ch ws b (p ++ y :: r) → leavesOk ws f last (p ++ y :: r) = true →
    ∀ x ∈ p, ∀ kv ∈ ownRead ws x, keyIs key kv = false
  | [], _, _, _, _, _, x, hx, _, _ => by cases hx
  | z :: p, b, f, last, hc, ho, x, hx, kv, hkv => by
    obtain ⟨rfl, h0, h1, h2, h3, ht⟩ := hc
    obtain ⟨ho1, ho2⟩ := leavesOk_cons ho
    rcases List.mem_cons.1 hx with rfl | hx
    · cases hk : keyIs key kv with
      | false => rfl
      | true =>
        obtain ⟨n, t, hnt⟩ : ∃ n t, p ++ y :: r = n :: t := by
          cases p with
          | nil => exact ⟨_, _, rfl⟩
          | cons a p => exact ⟨_, _, rfl⟩
        have hmem : n ∈ p ++ y :: r := by rw [hnt]; exact List.mem_cons_self
        have hlow := leavesOk_mem _ _ _ ho2 n hmem
        have hnle : ∀ a, ltS a (lowAt ws n) = true → ltS a (lowAt ws y) = true := by
          intro a ha
          cases p with
          | nil => injection hnt with e1 e2; rw [e1]; exact ha
          | cons c p =>
            injection hnt with e1 e2
            subst e1
            exact ltS_trans ha (lows_above _ _ (leavesOk_cons ho2).2 y (by simp))
        have ht2 : Ch ws (nodeRead ws x).1.next (p ++ y :: r) := ht
        rw [hnt] at ht2
        obtain ⟨rfl, hn0, _⟩ := ht2
        have hh := own_high hn0 hkv
        rw [hlow] at hh
        have := hnle _ hh
        rw [ltS_l (keyIs_eq hk) rfl, hy] at this
        cases this
    · exact before_none hy p _ _ _ ht ho2 x hx kv hkv
theorem after_none {ws : List Int} {key : ByteArray} : ∀ (r : List Int) (f : Bool) (last : ByteArray), leavesOk ws f last r = true → (∀ x ∈ r, ltS key (lowAt ws x) = true) → ∀ x ∈ r, ∀ kv ∈ ownRead ws x, keyIs key kv = false
  | [], _, _, _, _, x, hx, _, _ => by cases hx
  | z :: r, f, last, ho, hr, x, hx, kv, hkv => by
    obtain ⟨ho1, ho2⟩ := leavesOk_cons ho
    rcases List.mem_cons.1 hx with rfl | hx
    · cases hk : keyIs key kv with
      | false => rfl
      | true =>
        have := own_low ho1 hkv
        rw [ltS_l (keyIs_eq hk) rfl, hr x List.mem_cons_self] at this
        cases this
    · exact after_none r _ _ ho2 (fun y hy => hr y (List.mem_cons_of_mem _ hy)) x hx kv hkv
theorem find_flat_none {ws : List Int} {key : ByteArray} : ∀ (l : List Int), (∀ x ∈ l, ∀ kv ∈ ownRead ws x, keyIs key kv = false) → (l.flatMap (ownRead ws)).find? (keyIs key) = none := by
  intro l h
  rw [List.find?_eq_none]
  intro kv hkv
  obtain ⟨x, hx, hk⟩ := List.mem_flatMap.1 hkv
  rw [h x hx kv hk]
  simp
/-- A key is got of all pairs as of those of the leaf that may have it. -/
theorem get_split {ws : List Int} {key : ByteArray} {p r : List Int} {y : Int} (h1 : ∀ x ∈ p, ∀ kv ∈ ownRead ws x, keyIs key kv = false) (h2 : ∀ x ∈ r, ∀ kv ∈ ownRead ws x, keyIs key kv = false) :
    getOf ((p ++ y :: r).flatMap (ownRead ws)) key = getOf (ownRead ws y) key := by
  have e : ((p ++ y :: r).flatMap (ownRead ws)).find? (keyIs key) = (ownRead ws y).find? (keyIs key) := by
    rw [List.flatMap_append, List.flatMap_cons, List.find?_append, List.find?_append, find_flat_none p h1, find_flat_none r h2]
    simp
  unfold getOf
  rw [e]
/-- In a sound arena: the leaf at which a look ends, and what lies about it. -/
theorem end_leaf {ws l : List Int} {key : ByteArray} (hl : leavesRead ws = some l) (ho : leavesOk ws true ⟨#[]⟩ l = true) {t p : List Int} {b : Int} (hs : l = p ++ b :: t) (hk : ltS key (lowAt ws b) = false) :
    ∃ q r, l = q ++ endOf ws key (b :: t) 0 :: r ∧ ltS key (lowAt ws (endOf ws key (b :: t) 0)) = false ∧ (∀ x ∈ r, ltS key (lowAt ws x) = true) ∧ Ch ws (endOf ws key (b :: t) 0) (endOf ws key (b :: t) 0 :: r) ∧
      (∃ f last, leavesOk ws f last (endOf ws key (b :: t) 0 :: r) = true) ∧ getOf (l.flatMap (ownRead ws)) key = getOf (ownRead ws (endOf ws key (b :: t) 0)) key := by
  have hch := leaves_ch hl
  rw [hs] at hch
  have ho2 := ho
  rw [hs] at ho2
  obtain ⟨f2, last2, ho3⟩ := leavesOk_suffix p _ _ ho2
  obtain ⟨q, r, hqr, hr, hq⟩ := endOf_parts (key := key) (b :: t) f2 last2 0 ho3
  obtain ⟨q2, rfl, he⟩ : ∃ q2, q = q2 ++ [endOf ws key (b :: t) 0] ∧ ltS key (lowAt ws (endOf ws key (b :: t) 0)) = false := by
    rcases hq with ⟨rfl, hd⟩ | h
    · have : b ∈ r := by rw [List.nil_append] at hqr; rw [← hqr]; exact List.mem_cons_self
      rw [hr b this] at hk
      cases hk
    · exact h
  generalize endOf ws key (b :: t) 0 = y at *
  have hly : l = (p ++ q2) ++ y :: r := by rw [hs, hqr]; simp
  have hch2 := leaves_ch hl
  rw [hly] at hch2 ho
  obtain ⟨f4, last4, ho4⟩ := leavesOk_suffix _ _ _ ho
  refine ⟨p ++ q2, r, hly, he, hr, Ch_suffix _ _ hch2, ⟨f4, last4, ho4⟩, ?_⟩
  rw [hly]
  exact get_split (before_none he _ _ _ _ hch2 ho) (after_none r _ _ (leavesOk_cons ho4).2 hr)
end Go.Proofs.Ytliaemoomhfcdaa
