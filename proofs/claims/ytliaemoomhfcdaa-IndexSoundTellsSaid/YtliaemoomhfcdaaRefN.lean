/- What the reference's words of a node tell, in plain words. -/
import Derived.Test.YtliaemoomhfcdaaRefU
namespace Go.Proofs.Ytliaemoomhfcdaa
open Go.RowKit Go.Proofs.YtliaemoomhfcdaaW.PrintWords
set_option linter.unusedVariables false
set_option linter.unusedSimpArgs false
set_option maxRecDepth 100000

theorem first_is (lv tu : Int) (h0 : 0 ≤ lv) (h1 : lv ≤ 9) (h2 : 0 ≤ tu) (h3 : tu ≤ 1099511627776) : firstOf lv tu = 1152921504606846976 + 16 * tu + lv := by
  unfold firstOf
  rw [w64_id (x := tu * 16) (by omega) (by omega)]
  rw [or64 60 1152921504606846976 (tu * 16) (by omega) (by omega) (by omega) (by omega) (by first | (simp; done) | (simp; omega)) (by omega)]
  rw [or64 4 (1152921504606846976 + tu * 16) lv (by omega) (by first | (simp; done) | (simp; omega)) (by omega) (by omega) (by first | (simp; done) | (simp; omega)) (by omega)]
  omega
theorem andNot60 (y : Int) (h0 : 0 ≤ y) (h1 : y < 1152921504606846976) : bits .andNot .i64 (1152921504606846976 + y) 1152921504606846976 = y := by
  obtain ⟨n, rfl⟩ := Int.eq_ofNat_of_zero_le h0
  have hn : n < 2 ^ 60 := by omega
  show IntKind.i64.wrap ((BitVec.ofInt 64 (1152921504606846976 + (n : Int)) &&& ~~~ BitVec.ofInt 64 1152921504606846976).toNat : Int) = _
  have e1 : BitVec.ofInt 64 (1152921504606846976 + (n : Int)) = BitVec.ofNat 64 (2 ^ 60 * 1 + n) := by rw [← BitVec.ofInt_natCast]; rfl
  have e2 : BitVec.ofInt 64 1152921504606846976 = BitVec.ofNat 64 (2 ^ 60) := by rfl
  have e3 : ((BitVec.ofNat 64 (2 ^ 60 * 1 + n)) &&& ~~~ (BitVec.ofNat 64 (2 ^ 60))).toNat = n := by
    rw [BitVec.toNat_and, BitVec.toNat_not, BitVec.toNat_ofNat, BitVec.toNat_ofNat, Nat.mod_eq_of_lt (by omega), Nat.mod_eq_of_lt (by decide), Nat.two_pow_add_eq_or_of_lt hn]
    refine Nat.eq_of_testBit_eq (fun i => ?_)
    rw [Nat.testBit_and, Nat.testBit_or, show 2 ^ 64 - 1 - 2 ^ 60 = 2 ^ 64 - (2 ^ 60 + 1) by decide, Nat.testBit_two_pow_sub_succ (by decide), Nat.mul_one, Nat.testBit_two_pow]
    by_cases hi : 60 = i
    · subst hi
      rw [Nat.testBit_lt_two_pow hn]
      decide
    · rw [decide_eq_false hi]
      by_cases h64 : i < 64
      · rw [decide_eq_true h64]; simp
      · rw [Nat.testBit_lt_two_pow (Nat.lt_of_lt_of_le hn (Nat.pow_le_pow_right (by decide) (by omega)))]; simp
  rw [e1, e2, e3, IntKind.wrap_i64]
  omega
theorem takeWhile_all {p : Int → Bool} : ∀ (l r : List Int), (∀ x ∈ l, p x = true) → (∀ x ∈ r, p x = false) → (l ++ r).takeWhile p = l
  | [], [], _, _ => rfl
  | [], b :: r, _, h => by rw [List.nil_append, List.takeWhile_cons, h b (by simp)]; rfl
  | a :: l, r, h1, h2 => by
    rw [List.cons_append, List.takeWhile_cons, h1 a (by simp)]
    simp only [if_true]
    rw [takeWhile_all l r (fun x hx => h1 x (by simp [hx])) h2]
theorem ok_parts {x : PNode} (h : x.ok = true) : (0 ≤ x.level ∧ x.level ≤ 9) ∧ (0 ≤ x.turn ∧ x.turn ≤ 1099511627776) ∧ x.slots.length ≤ 13 ∧ ∀ s ∈ x.slots, 1 ≤ s := by
  unfold PNode.ok nodeOk at h
  simp only [Bool.and_eq_true, decide_eq_true_eq, Bool.not_eq_true', List.any_eq_false] at h
  obtain ⟨⟨⟨⟨⟨⟨⟨a1, a2⟩, a3⟩, a4⟩, a5⟩, a6⟩, a7⟩, a8⟩ := h
  refine ⟨⟨a1, a2⟩, ⟨a3, a4⟩, a7, fun s hs => ?_⟩
  have := a8 s hs
  unfold noSlot isBlk at this
  simp at this
  omega
theorem words_shape (x : PNode) : ∃ r : List Int, x.words = firstOf x.level x.turn :: x.next :: x.low :: (x.slots ++ r) ∧ r = List.replicate (13 - x.slots.length) 0 := ⟨_, rfl, rfl⟩
theorem node_back (x : PNode) (h : x.ok = true) : nodeOf16 x.words = x := by
  obtain ⟨⟨a1, a2⟩, ⟨a3, a4⟩, a5, a6⟩ := ok_parts h
  obtain ⟨r, e, hr⟩ := words_shape x
  unfold nodeOf16 slotsOf
  rw [e]
  have ef := first_is x.level x.turn a1 a2 a3 a4
  have e1 : bits .and .i64 (firstOf x.level x.turn) 15 = x.level := by
    have := bits_mask .i64 63 (by decide) wraps_i64 4 (by decide) (firstOf x.level x.turn) (by rw [ef]; omega) (by rw [ef]; omega)
    refine Eq.trans this ?_
    rw [ef]; simp; omega
  have e2 : bits .andNot .i64 (firstOf x.level x.turn) 1152921504606846976 / 16 = x.turn := by
    rw [ef, show 1152921504606846976 + 16 * x.turn + x.level = 1152921504606846976 + (16 * x.turn + x.level) by omega, andNot60 _ (by omega) (by omega)]
    omega
  have e3 : ((x.slots ++ r).take 13).takeWhile (fun x => decide (1 ≤ x)) = x.slots := by
    rw [List.take_of_length_le (by rw [hr]; simp; omega)]
    exact takeWhile_all _ _ (fun s hs => by simpa using a6 s hs) (fun s hs => by rw [hr] at hs; rw [(List.mem_replicate.1 hs).2]; rfl)
  show PNode.mk _ _ _ _ _ = x
  have d0 : (firstOf x.level x.turn :: x.next :: x.low :: (x.slots ++ r)).getD 0 0 = firstOf x.level x.turn := rfl
  have d3 : (firstOf x.level x.turn :: x.next :: x.low :: (x.slots ++ r)).drop (0 + 3) = x.slots ++ r := rfl
  rw [d0, d3, e1, e2, e3]
  rfl
/-- The reference's reading of a node's words. -/
def refNodeOf (f : List Int) : PNode := ⟨Int.tmod (wrap64 (f.getD 0 0 - 1152921504606846976)) 16, wrap64 (Int.tdiv (wrap64 (f.getD 0 0 - 1152921504606846976)) 16), f.getD 1 0, f.getD 2 0, ((f.drop 3).take 13).takeWhile (fun x => decide (x ≠ 0))⟩
theorem ref_back (x : PNode) (h : x.ok = true) : refNodeOf x.words = x ∧ 0 ≤ x.words.getD 0 0 ∧ 0 ≤ wrap64 (x.words.getD 0 0 - 1152921504606846976) := by
  obtain ⟨⟨a1, a2⟩, ⟨a3, a4⟩, a5, a6⟩ := ok_parts h
  obtain ⟨r, e, hr⟩ := words_shape x
  unfold refNodeOf
  rw [e]
  have ef := first_is x.level x.turn a1 a2 a3 a4
  have d0 : (firstOf x.level x.turn :: x.next :: x.low :: (x.slots ++ r)).getD 0 0 = firstOf x.level x.turn := rfl
  have d3 : (firstOf x.level x.turn :: x.next :: x.low :: (x.slots ++ r)).drop 3 = x.slots ++ r := rfl
  have e0 : wrap64 (firstOf x.level x.turn - 1152921504606846976) = 16 * x.turn + x.level := by rw [ef, w64_id (by omega) (by omega)]; omega
  have e3 : ((x.slots ++ r).take 13).takeWhile (fun x => decide (x ≠ 0)) = x.slots := by
    rw [List.take_of_length_le (by rw [hr]; simp; omega)]
    exact takeWhile_all _ _ (fun s hs => by have := a6 s hs; simp; omega) (fun s hs => by rw [hr] at hs; rw [(List.mem_replicate.1 hs).2]; rfl)
  rw [d0, d3, e0, e3, Int.tmod_eq_emod_of_nonneg (by omega), Int.tdiv_eq_ediv_of_nonneg (by omega), show (16 * x.turn + x.level) % 16 = x.level by omega, show (16 * x.turn + x.level) / 16 = x.turn by omega, w64_id (by omega) (by omega)]
  exact ⟨rfl, by rw [ef]; omega, by omega⟩
def refNode16 (f : List Int) : PNode × Int :=
  if f.getD 0 0 < 0 ∨ wrap64 (f.getD 0 0 - 1152921504606846976) < 0 then (PNode.zero, 90)
  else if (refNodeOf f).ok = true ∧ (refNodeOf f).words = f then (refNodeOf f, 0) else (PNode.zero, 90)
theorem refNode_is (f : List Int) : refNode16 f = nodeRead16 f := by
  unfold refNode16 nodeRead16
  by_cases hp : (nodeOf16 f).ok = true ∧ (nodeOf16 f).words = f
  · rw [if_pos hp]
    obtain ⟨b1, b2, b3⟩ := ref_back (nodeOf16 f) hp.1
    rw [hp.2] at b1 b2 b3
    rw [if_neg (by omega), b1, if_pos hp]
  · rw [if_neg hp]
    split
    · rfl
    · split
      · rename_i hr
        have b := node_back (refNodeOf f) hr.1
        rw [hr.2] at b
        rw [b] at hp
        exact absurd hr hp
      · rfl
end Go.Proofs.Ytliaemoomhfcdaa
