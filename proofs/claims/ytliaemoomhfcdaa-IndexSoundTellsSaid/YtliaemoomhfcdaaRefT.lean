/- What the reference's functions of texts tell, in plain words. -/
import Derived.Test.YtliaemoomhfcdaaRRx1
import Derived.Test.YtliaemoomhfcdaaMC
namespace Go.Proofs.Ytliaemoomhfcdaa
open Go.RowKit Go.Proofs.YtliaemoomhfcdaaW.PrintWords
set_option linter.unusedVariables false
set_option linter.unusedSimpArgs false
set_option maxRecDepth 100000

theorem wraps_i64 (n : Int) (h₀ : 0 ≤ n) (h₁ : n < 2 ^ 63) : IntKind.i64.wrap n = n := by rw [IntKind.wrap_i64]; omega
theorem or64 (i : Nat) (x y : Int) (hx₀ : 0 ≤ x) (hx : x % 2 ^ i = 0) (hx₁ : x < 2 ^ 63) (hy₀ : 0 ≤ y) (hy : y < 2 ^ i) (hy₁ : y < 2 ^ 63) : bits .or .i64 x y = x + y :=
  bits_join .i64 63 (by decide) wraps_i64 i x y hx₀ hx hx₁ hy₀ hy hy₁
/-- The number of so many bytes, the first one the highest of seven. -/
def acc7 (b : Nat → Int) : Nat → Int
  | 0 => 0
  | i + 1 => acc7 b i + b i * 2 ^ (8 * (6 - i))
theorem wAcc_is (p : ByteArray) : ∀ i, i ≤ 7 → wAcc p i = acc7 (fun j => (byteAt p j : Int)) i ∧ 0 ≤ wAcc p i ∧ wAcc p i < 2 ^ 56 ∧ wAcc p i % 2 ^ (8 * (7 - i)) = 0 := by
  have hb : ∀ j, 0 ≤ (byteAt p j : Int) ∧ (byteAt p j : Int) < 256 := by
    intro j
    unfold byteAt
    split
    · have := (p[j]).toNat_lt; omega
    · omega
  have st : ∀ (i : Nat) (A b : Int), i < 7 → 0 ≤ b → b < 256 → 0 ≤ A → A < 2 ^ 56 → A % 2 ^ (8 * (7 - i)) = 0 →
      bits .or .i64 A (wrap64 (wrap64 b * 2 ^ (8 * (6 - i)))) = A + b * 2 ^ (8 * (6 - i)) ∧ 0 ≤ A + b * 2 ^ (8 * (6 - i)) ∧ A + b * 2 ^ (8 * (6 - i)) < 2 ^ 56 ∧ (A + b * 2 ^ (8 * (6 - i))) % 2 ^ (8 * (7 - (i + 1))) = 0 := by
    intro i A b hi b0 b1 a0 a1 am
    have e : wrap64 (wrap64 b * 2 ^ (8 * (6 - i))) = b * 2 ^ (8 * (6 - i)) := by
      rw [w64_id b0 (by omega)]
      match i, hi with
      | 0, _ | 1, _ | 2, _ | 3, _ | 4, _ | 5, _ | 6, _ => rw [w64_id] <;> simp <;> omega
    rw [e]
    match i, hi, am with
    | 0, _, am | 1, _, am | 2, _, am | 3, _, am | 4, _, am | 5, _, am | 6, _, am =>
      refine ⟨or64 _ _ _ a0 am (by omega) ?_ ?_ ?_, ?_, ?_, ?_⟩ <;> simp at am ⊢ <;> omega
  intro i
  induction i with
  | zero => intro _; exact ⟨rfl, by simp [wAcc], by simp [wAcc], by simp [wAcc]⟩
  | succ i ih =>
    intro hi
    obtain ⟨e, a0, a1, a2⟩ := ih (by omega)
    obtain ⟨s1, s2, s3, s4⟩ := st i (wAcc p i) (byteAt p i) (by omega) (hb i).1 (hb i).2 a0 a1 a2
    rw [wAcc, acc7, ← e, s1]
    exact ⟨rfl, s2, s3, s4⟩
theorem acc7_congr {b c : Nat → Int} : ∀ i, (∀ j, j < i → b j = c j) → acc7 b i = acc7 c i
  | 0, _ => rfl
  | i + 1, h => by rw [acc7, acc7, acc7_congr i (fun j hj => h j (by omega)), h i (by omega)]
theorem acc7_zero {b : Nat → Int} (i : Nat) : ∀ d, (∀ j, i ≤ j → b j = 0) → acc7 b (i + d) = acc7 b i
  | 0, _ => rfl
  | d + 1, h => by rw [show i + (d + 1) = (i + d) + 1 by omega, acc7, acc7_zero i d h, h _ (by omega)]; omega
/-- A text's word. -/
def wd (s : ByteArray) (j : Nat) : Int := acc7 (fun i => (byteAt s (7 * j + i) : Int)) 7
theorem byte_piece (s : ByteArray) (j i : Nat) (hi : i < (pieceAt s j).size) : byteAt (pieceAt s j) i = byteAt s (7 * j + i) := by
  have hs : (pieceAt s j).size = min (7 * j + 7) s.size - 7 * j := by unfold pieceAt; rw [ByteArray.size_extract]; omega
  have h2 : 7 * j + i < s.size := by omega
  rw [byteAt_eq hi, byteAt_eq h2]
  exact congrArg UInt8.toNat (ByteArray.getElem_extract (h := hi))
theorem word_piece (s : ByteArray) (j : Nat) (hj : j < pieceCount s) : wordOf (pieceAt s j) = wd s j := by
  have hs : (pieceAt s j).size = min (7 * j + 7) s.size - 7 * j := by unfold pieceAt; rw [ByteArray.size_extract]; omega
  unfold wordOf wd
  rw [(wAcc_is _ _ (by omega)).1]
  rw [acc7_congr (c := fun i => (byteAt s (7 * j + i) : Int)) _ (fun i hi => congrArg (fun n : Nat => (n : Int)) (byte_piece s j i hi))]
  by_cases h7 : (pieceAt s j).size = 7
  · rw [h7]
  · have hz : ∀ i, (pieceAt s j).size ≤ i → ((fun i => (byteAt s (7 * j + i) : Int)) i) = 0 := by
      intro i hi
      show (byteAt s (7 * j + i) : Int) = 0
      unfold byteAt
      rw [dif_neg (by omega)]; rfl
    have := acc7_zero (b := fun i => (byteAt s (7 * j + i) : Int)) (pieceAt s j).size (7 - (pieceAt s j).size) hz
    rw [← this]
    congr 1
    omega
theorem wordsOf_wd (s : ByteArray) : wordsOf s = (List.range (pieceCount s)).map (wd s) := by
  unfold wordsOf piecesTo
  rw [List.map_map]
  refine List.map_congr_left (fun j hj => ?_)
  exact word_piece s j (List.mem_range.1 hj)
theorem byteAt_lt (p : ByteArray) (j : Nat) : 0 ≤ (byteAt p j : Int) ∧ (byteAt p j : Int) < 256 := by
  unfold byteAt
  split
  · have := (p[j]).toNat_lt; omega
  · omega
theorem wd_lt (s : ByteArray) (j : Nat) : 0 ≤ wd s j ∧ wd s j < 2 ^ 56 := by
  unfold wd
  simp only [acc7]
  have := fun i => byteAt_lt s (7 * j + i)
  have h0 := this 0; have h1 := this 1; have h2 := this 2; have h3 := this 3; have h4 := this 4; have h5 := this 5; have h6 := this 6
  simp at *
  omega
theorem bt_byte (s : ByteArray) (i : Nat) : bt s (i : Int) = (byteAt s i : Int) := by
  unfold bt byteAt
  rw [Int.toNat_natCast]
  split <;> rfl
theorem refw_step (k : Nat) (s : ByteArray) (a : List Int) (j : Nat) (n : Int) (i : Nat) (hj : s.size ≤ 1000000000) (hjs : 7 * j < s.size) (hi : i < 7) (h0 : 0 ≤ n) (h1 : n < 2 ^ 48) :
    RR.lamplighterref02_Words.l1 (k + 1) s a (7 * j : Nat) n (7 * j + i : Nat) = RR.lamplighterref02_Words.l1 k s a (7 * j : Nat) (n * 256 + (byteAt s (7 * j + i) : Int)) (7 * j + (i + 1) : Nat) := by
  have hb := byteAt_lt s (7 * j + i)
  have e1 : wrap64 (((7 * j : Nat) : Int) + 7) = ((7 * j + 7 : Nat) : Int) := by rw [w64_id (by omega) (by omega)]; omega
  have e2 : wrap64 (n * 256) = n * 256 := w64_id (by omega) (by omega)
  have e3 : wrap64 (((7 * j + i : Nat) : Int) + 1) = ((7 * j + (i + 1) : Nat) : Int) := by rw [w64_id (by omega) (by omega)]; omega
  have e4 : wrap64 (byteAt s (7 * j + i) : Int) = (byteAt s (7 * j + i) : Int) := w64_id hb.1 (by omega)
  have e5 : wrap64 (n * 256 + (byteAt s (7 * j + i) : Int)) = n * 256 + (byteAt s (7 * j + i) : Int) := w64_id (by omega) (by omega)
  rw [RR.lamplighterref02_Words.l1, e1, if_pos (by omega), e2, e3, bt_byte, e4, e5]
  by_cases h : ((7 * j + i : Nat) : Int) < (s.size : Int)
  · rw [if_pos h, if_pos (by omega)]
  · rw [if_neg h]
    have : byteAt s (7 * j + i) = 0 := by unfold byteAt; rw [dif_neg (by omega)]
    rw [this]
    simp
theorem refw_round (k : Nat) (s : ByteArray) (a : List Int) (j : Nat) (hj : s.size ≤ 1000000000) (hjs : 7 * j < s.size) (ha : a.length < 17592186044416) :
    RR.lamplighterref02_Words.l1 (k + 8) s a (7 * j : Nat) 0 (7 * j : Nat) = RR.lamplighterref02_Words.l0 k s (a ++ [wd s j]) (7 * (j + 1) : Nat) := by
  have hb := fun i => byteAt_lt s (7 * j + i)
  have h0 := hb 0; have h1 := hb 1; have h2 := hb 2; have h3 := hb 3; have h4 := hb 4; have h5 := hb 5; have h6 := hb 6
  have s0 := refw_step (k + 7) s a j 0 0 hj hjs (by omega) (by omega) (by omega)
  rw [show ((7 * j + 0 : Nat) : Int) = ((7 * j : Nat) : Int) by omega] at s0
  rw [show k + 8 = k + 7 + 1 by omega, s0, refw_step (k + 6) s a j _ 1 hj hjs (by omega) (by omega) (by omega), refw_step (k + 5) s a j _ 2 hj hjs (by omega) (by omega) (by omega), refw_step (k + 4) s a j _ 3 hj hjs (by omega) (by omega) (by omega), refw_step (k + 3) s a j _ 4 hj hjs (by omega) (by omega) (by omega), refw_step (k + 2) s a j _ 5 hj hjs (by omega) (by omega) (by omega), refw_step (k + 1) s a j _ 6 hj hjs (by omega) (by omega) (by omega)]
  have e1 : wrap64 (((7 * j : Nat) : Int) + 7) = ((7 * (j + 1) : Nat) : Int) := by rw [w64_id (by omega) (by omega)]; omega
  rw [RR.lamplighterref02_Words.l1, e1, if_neg (by omega), if_pos ha]
  congr 3
  unfold wd
  simp only [acc7]
  simp
  omega
theorem refw_l0 (s : ByteArray) (hs : s.size ≤ 1000000000) : ∀ (d j : Nat), pieceCount s - j = d → j ≤ pieceCount s → ∀ k, 9 * d < k →
    RR.lamplighterref02_Words.l0 k s ((List.range j).map (wd s)) (7 * j : Nat) = some ((List.range (pieceCount s)).map (wd s)) := by
  intro d
  induction d with
  | zero =>
    intro j hd hj k hk
    obtain ⟨k, rfl⟩ : ∃ m, k = m + 1 := ⟨k - 1, by omega⟩
    have : j = pieceCount s := by omega
    subst this
    rw [RR.lamplighterref02_Words.l0, if_neg (by unfold pieceCount; omega)]
  | succ d ih =>
    intro j hd hj k hk
    obtain ⟨k, rfl⟩ : ∃ m, k = m + 9 := ⟨k - 9, by omega⟩
    have hjs : 7 * j < s.size := by unfold pieceCount at hd; omega
    rw [RR.lamplighterref02_Words.l0, if_pos (by omega), refw_round k s _ j hs hjs (by rw [List.length_map, List.length_range]; unfold pieceCount at hj; omega)]
    have := ih (j + 1) (by omega) (by omega) k (by omega)
    rw [List.range_succ, List.map_append] at this
    exact this
theorem refw_f (k : Nat) (s : ByteArray) (hs : s.size ≤ 1000000000) (hk : 9 * pieceCount s < k) : RR.lamplighterref02_Words.f k s = some (wordsOf s) := by
  rw [wordsOf_wd]
  exact refw_l0 s hs (pieceCount s) 0 (by omega) (by omega) k hk
theorem refn_l0 (a b : List Int) (hab : a.length = b.length) (hn : a.length ≤ 1000000000) : ∀ (d i : Nat), a.length - i = d → i ≤ a.length → ∀ k, d < k →
    RR.lamplighterref02_Numbers.l0 k a b (i : Int) = some (a.drop i == b.drop i) := by
  intro d
  induction d with
  | zero =>
    intro i hd hi k hk
    obtain ⟨k, rfl⟩ : ∃ m, k = m + 1 := ⟨k - 1, by omega⟩
    unfold RR.lamplighterref02_Numbers.l0
    rw [if_neg (by omega), List.drop_eq_nil_of_le (by omega), List.drop_eq_nil_of_le (by omega)]
    rfl
  | succ d ih =>
    intro i hd hi k hk
    obtain ⟨k, rfl⟩ : ∃ m, k = m + 1 := ⟨k - 1, by omega⟩
    have g1 : (i : Int) < (a.length : Int) := by omega
    have g2 : 0 ≤ (i : Int) := by omega
    have g3 : (i : Int) < (b.length : Int) := by omega
    have g4 : i < a.length := by omega
    have g5 : i < b.length := by omega
    have g6 := ih (i + 1) (by omega) (by omega) k (by omega)
    have e1 : rd a (i : Int) = a.getD i 0 := rfl
    have e2 : rd b (i : Int) = b.getD i 0 := rfl
    have e3 : wrap64 ((i : Int) + 1) = ((i + 1 : Nat) : Int) := by clear e1 e2 g6; rw [w64_id (by omega) (by omega)]; rfl
    unfold RR.lamplighterref02_Numbers.l0
    rw [if_pos g1, if_pos g2, if_pos g3, e1, e2, e3, drop_cons_ g4, drop_cons_ g5, g6]
    by_cases h : a.getD i 0 = b.getD i 0
    · rw [if_pos h, h]; simp
    · rw [if_neg h]; simp only [List.getD_eq_getElem?_getD] at h; simp [h]
theorem refn_f (a b : List Int) (hn : a.length ≤ 1000000000) (k : Nat) (hk : a.length < k) : RR.lamplighterref02_Numbers.f k a b = some (a == b) := by
  unfold RR.lamplighterref02_Numbers.f
  by_cases h : (a.length : Int) = (b.length : Int)
  · rw [if_pos h]
    have := refn_l0 a b (by omega) hn a.length 0 (by omega) (by omega) k hk
    simpa using this
  · rw [if_neg h]
    congr 1
    rw [eq_comm, beq_eq_false_iff_ne]
    intro e
    rw [e] at h
    exact h rfl
end Go.Proofs.Ytliaemoomhfcdaa
