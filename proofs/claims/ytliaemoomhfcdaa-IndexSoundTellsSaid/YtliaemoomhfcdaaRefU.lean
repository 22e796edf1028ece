/- What the reference's text of words tells, in plain words. -/
import Derived.Test.YtliaemoomhfcdaaRefT
namespace Go.Proofs.Ytliaemoomhfcdaa
open Go.RowKit Go.Proofs.YtliaemoomhfcdaaW.PrintWords
set_option linter.unusedVariables false
set_option linter.unusedSimpArgs false
set_option maxRecDepth 100000

/-- So many of a word's bytes, the lowest first, and what is left. -/
def rB (x : Int) : Nat → Int × List Int
  | 0 => (x, [])
  | t + 1 => (wrap64 (Int.tdiv (rB x t).1 256), ((Int.tmod (rB x t).1 256) % 256) :: (rB x t).2)
theorem rB_len (x : Int) : ∀ t, (rB x t).2.length = t
  | 0 => rfl
  | t + 1 => by rw [rB, List.length_cons, rB_len x t]
theorem reft_step (k : Nat) (l : List Int) (n : Int) (a : List Int) (i : Int) (x : Int) (t : Nat) (ht : t < 7) :
    RR.lamplighterref02_Text.l1 (k + 1) l n a i (rB x t).2 (rB x t).1 (t : Int) = RR.lamplighterref02_Text.l1 k l n a i (rB x (t + 1)).2 (rB x (t + 1)).1 ((t + 1 : Nat) : Int) := by
  have e1 : wrap64 ((t : Int) + 1) = ((t + 1 : Nat) : Int) := by rw [w64_id (by omega) (by omega)]; omega
  have hl : ([(Int.tmod (rB x t).1 256) % 256] : List Int).length + (rB x t).2.length < 140737488355328 := by rw [rB_len]; simp; omega
  rw [RR.lamplighterref02_Text.l1, if_pos (by omega), Option.bind_some, if_pos hl, e1]
  rfl
theorem reft_word (k : Nat) (l : List Int) (n : Int) (a : List Int) (i : Int) (x : Int) (ha : a.length < 10000000000) :
    RR.lamplighterref02_Text.l1 (k + 8) l n a i [] x 0 = RR.lamplighterref02_Text.l0 k l n (a ++ (rB x 7).2) (wrap64 (i + 1)) := by
  have s0 := reft_step (k + 7) l n a i x 0 (by omega)
  have s1 := reft_step (k + 6) l n a i x 1 (by omega)
  have s2 := reft_step (k + 5) l n a i x 2 (by omega)
  have s3 := reft_step (k + 4) l n a i x 3 (by omega)
  have s4 := reft_step (k + 3) l n a i x 4 (by omega)
  have s5 := reft_step (k + 2) l n a i x 5 (by omega)
  have s6 := reft_step (k + 1) l n a i x 6 (by omega)
  refine s0.trans (s1.trans (s2.trans (s3.trans (s4.trans (s5.trans (s6.trans ?_))))))
  have hl : a.length + (rB x 7).2.length < 140737488355328 := by rw [rB_len]; omega
  rw [RR.lamplighterref02_Text.l1, if_neg (by omega), if_pos hl]
def rbs (l : List Int) : Nat → List Int
  | 0 => []
  | k + 1 => rbs l k ++ (rB (l.getD k 0) 7).2
theorem rbs_len (l : List Int) : ∀ k, (rbs l k).length = 7 * k
  | 0 => rfl
  | k + 1 => by rw [rbs, List.length_append, rbs_len l k, rB_len]; omega
/-- What the reference tells of words that are not below 0. -/
def refEnd (l : List Int) (n : Nat) : ByteArray × Int :=
  if (wordsOf (strOfNums ((rbs l l.length).take n)) == l) = true then (strOfNums ((rbs l l.length).take n), 0) else (⟨#[]⟩, 20)
def refTextAns (l : List Int) (n : Nat) : ByteArray × Int := if l.any (fun x => decide (x < 0)) = true then (⟨#[]⟩, 20) else refEnd l n
theorem wordsOf_len (s : ByteArray) : (wordsOf s).length = pieceCount s := by unfold wordsOf piecesTo; simp
theorem reft_l0 (l : List Int) (n : Nat) (hn : n ≤ 7 * l.length) (hl : l.length ≤ 10000000) : ∀ (d i : Nat), l.length - i = d → i ≤ l.length → ∀ k, 9 * d + 9 * l.length + 20 < k →
    RR.lamplighterref02_Text.l0 k l (n : Int) (rbs l i) (i : Int) = some (if (l.drop i).any (fun x => decide (x < 0)) = true then (⟨#[]⟩, 20) else refEnd l n) := by
  intro d
  induction d with
  | zero =>
    intro i hd hi k hk
    obtain ⟨k, rfl⟩ : ∃ m, k = m + 1 := ⟨k - 1, by omega⟩
    obtain rfl : i = l.length := by omega
    have hr := rbs_len l l.length
    have hsz : (strOfNums ((rbs l l.length).take n)).size = n := by rw [strOfNums_size, List.length_take, hr]; omega
    have hpc : pieceCount (strOfNums ((rbs l l.length).take n)) ≤ l.length := by unfold pieceCount; rw [hsz]; omega
    rw [RR.lamplighterref02_Text.l0, if_neg (by omega), if_pos (by omega), if_pos (by rw [hr]; omega), Option.bind_some, Int.toNat_natCast, List.drop_eq_nil_of_le (by omega)]
    rw [refw_f k _ (by rw [hsz]; omega) (by omega), Option.bind_some, refn_f _ _ (by rw [wordsOf_len]; omega) k (by rw [wordsOf_len]; omega), Option.bind_some]
    unfold refEnd
    by_cases hc : (wordsOf (strOfNums ((rbs l l.length).take n)) == l) = true
    · rw [if_pos hc, if_pos hc]; rfl
    · rw [if_neg hc, if_neg hc]; rfl
  | succ d ih =>
    intro i hd hi k hk
    obtain ⟨k, rfl⟩ : ∃ m, k = m + 9 := ⟨k - 9, by omega⟩
    have hil : i < l.length := by omega
    have e1 : rd l (i : Int) = l.getD i 0 := rfl
    have e3 : wrap64 ((i : Int) + 1) = ((i + 1 : Nat) : Int) := by rw [w64_id (by omega) (by omega)]; rfl
    rw [RR.lamplighterref02_Text.l0, if_pos (by omega), if_pos (by omega), e1, drop_cons_ hil, List.any_cons]
    by_cases h0 : l.getD i 0 < 0
    · rw [if_pos h0, decide_eq_true h0, Bool.true_or, if_pos rfl]
    · rw [if_neg h0, decide_eq_false h0, Bool.false_or, reft_word k l n _ _ _ (by rw [rbs_len]; omega), e3]
      exact ih (i + 1) (by omega) (by omega) k (by omega)
theorem reft_f (k : Nat) (l : List Int) (n : Nat) (hn : n ≤ 7 * l.length) (hl : l.length ≤ 10000000) (hk : 18 * l.length + 30 < k) : RR.lamplighterref02_Text.f k l (n : Int) = some (refTextAns l n) := by
  obtain ⟨k, rfl⟩ : ∃ m, k = m + 1 := ⟨k - 1, by omega⟩
  have e : wrap64 (7 * (l.length : Int)) = 7 * (l.length : Int) := w64_id (by omega) (by omega)
  rw [RR.lamplighterref02_Text.f, if_neg (by omega), e, decide_eq_false (by omega), RR.lamplighterref02_Text.j0, if_neg (by simp)]
  exact reft_l0 l n hn hl l.length 0 (by omega) (by omega) k (by omega)

theorem rB_small (x : Int) (h0 : 0 ≤ x) (h1 : x < 72057594037927936) : (rB x 7).2 = bTo x 7 := by
  have td : ∀ y : Int, 0 ≤ y → y < 72057594037927936 → Int.tdiv y 256 = y / 256 ∧ Int.tmod y 256 % 256 = y % 256 ∧ 0 ≤ y / 256 ∧ y / 256 < 72057594037927936 := by
    intro y a b
    rw [Int.tdiv_eq_ediv_of_nonneg a, Int.tmod_eq_emod_of_nonneg a]
    omega
  have st : ∀ t y, (rB x t).1 = y → 0 ≤ y → y < 72057594037927936 → rB x (t + 1) = (y / 256, (y % 256) :: (rB x t).2) := by
    intro t y e a b
    obtain ⟨t1, t2, t3, t4⟩ := td y a b
    rw [rB, e, t1, t2, w64_id t3 (by omega)]
  have r1 := st 0 x rfl h0 h1
  have r2 := st 1 _ (by rw [r1]) (by omega) (by omega)
  have r3 := st 2 _ (by rw [r2]) (by omega) (by omega)
  have r4 := st 3 _ (by rw [r3]) (by omega) (by omega)
  have r5 := st 4 _ (by rw [r4]) (by omega) (by omega)
  have r6 := st 5 _ (by rw [r5]) (by omega) (by omega)
  have r7 := st 6 _ (by rw [r6]) (by omega) (by omega)
  rw [r7, r6, r5, r4, r3, r2, r1]
  simp only [bTo, bAt, IntKind.wrap_u8, List.nil_append, List.cons_append, rB]
  simp
  omega
theorem rbs_small (l : List Int) (h : l.any offWord = false) : ∀ k, k ≤ l.length → rbs l k = bsTo l k
  | 0, _ => rfl
  | k + 1, hk => by
    have hx : l[k]? = some (l.getD k 0) := by rw [List.getD_eq_getElem?_getD, List.getElem?_eq_getElem (by omega)]; rfl
    have ho := (List.any_eq_false.1 h) (l.getD k 0) (List.mem_of_getElem? hx)
    unfold offWord at ho
    simp at ho
    rw [rbs, bs_step hx, rbs_small l h k (by omega), rB_small _ (by simpa using ho.1) (by simpa using ho.2)]
theorem bs_get (l : List Int) : ∀ k, k ≤ l.length → ∀ j i, j < k → i < 7 → (bsTo l k)[7 * j + i]? = some (bAt (l.getD j 0) i)
  | 0, _, _, _, h, _ => by omega
  | k + 1, hk, j, i, hj, hi => by
    have hx : l[k]? = some (l.getD k 0) := by rw [List.getD_eq_getElem?_getD, List.getElem?_eq_getElem (by omega)]; rfl
    have hlen := bsTo_len l k (by omega)
    rw [bs_step hx]
    by_cases hjk : j < k
    · rw [List.getElem?_append_left (by omega)]
      exact bs_get l k (by omega) j i hjk hi
    · obtain rfl : j = k := by omega
      rw [List.getElem?_append_right (by omega), hlen, show 7 * j + i - 7 * j = i by omega]
      match i, hi with
      | 0, _ | 1, _ | 2, _ | 3, _ | 4, _ | 5, _ | 6, _ => rfl
theorem bAt_range (x : Int) (i : Nat) : 0 ≤ bAt x i ∧ bAt x i < 256 := by unfold bAt; rw [IntKind.wrap_u8]; omega
theorem digits (x : Int) (h0 : 0 ≤ x) (h1 : x < 72057594037927936) (m : Nat) : acc7 (fun i => if i < m then bAt x i else 0) 7 = x ↔ ∀ i, i < 7 → m ≤ i → bAt x i = 0 := by
  have hx : x = bAt x 0 * 281474976710656 + bAt x 1 * 1099511627776 + bAt x 2 * 4294967296 + bAt x 3 * 16777216 + bAt x 4 * 65536 + bAt x 5 * 256 + bAt x 6 := by
    simp only [bAt, IntKind.wrap_u8]
    simp
    omega
  have hb := fun i => bAt_range x i
  have b0 := hb 0; have b1 := hb 1; have b2 := hb 2; have b3 := hb 3; have b4 := hb 4; have b5 := hb 5; have b6 := hb 6
  have hall : (∀ i, i < 7 → m ≤ i → bAt x i = 0) ↔ (m ≤ 0 → bAt x 0 = 0) ∧ (m ≤ 1 → bAt x 1 = 0) ∧ (m ≤ 2 → bAt x 2 = 0) ∧ (m ≤ 3 → bAt x 3 = 0) ∧ (m ≤ 4 → bAt x 4 = 0) ∧ (m ≤ 5 → bAt x 5 = 0) ∧ (m ≤ 6 → bAt x 6 = 0) := by
    constructor
    · intro h
      exact ⟨h 0 (by omega), h 1 (by omega), h 2 (by omega), h 3 (by omega), h 4 (by omega), h 5 (by omega), h 6 (by omega)⟩
    · rintro ⟨a0, a1, a2, a3, a4, a5, a6⟩ i hi
      match i, hi with
      | 0, _ => exact a0
      | 1, _ => exact a1
      | 2, _ => exact a2
      | 3, _ => exact a3
      | 4, _ => exact a4
      | 5, _ => exact a5
      | 6, _ => exact a6
  rw [hall]
  clear hall hb
  simp only [acc7]
  generalize bAt x 0 = c0 at *
  generalize bAt x 1 = c1 at *
  generalize bAt x 2 = c2 at *
  generalize bAt x 3 = c3 at *
  generalize bAt x 4 = c4 at *
  generalize bAt x 5 = c5 at *
  generalize bAt x 6 = c6 at *
  rcases (show m = 0 ∨ m = 1 ∨ m = 2 ∨ m = 3 ∨ m = 4 ∨ m = 5 ∨ m = 6 ∨ 7 ≤ m by omega) with rfl | rfl | rfl | rfl | rfl | rfl | rfl | hm
  case _ => simp; omega
  case _ => simp; omega
  case _ => simp; omega
  case _ => simp; omega
  case _ => simp; omega
  case _ => simp; omega
  case _ => simp; omega
  case _ =>
    rw [if_pos (by omega), if_pos (by omega), if_pos (by omega), if_pos (by omega), if_pos (by omega), if_pos (by omega), if_pos (by omega)]
    simp
    omega
theorem wordsOf_get (s : ByteArray) (j : Nat) (hj : j < pieceCount s) : (wordsOf s)[j]? = some (wd s j) := by
  rw [wordsOf_wd, List.getElem?_map, List.getElem?_range hj]; rfl
theorem refText_is (l : List Int) (n : Nat) (hln : l.length = (n + 6) / 7) : refTextAns l n = textOf l n := by
  have hr := rbs_len l l.length
  have hsz : (strOfNums ((rbs l l.length).take n)).size = n := by rw [strOfNums_size, List.length_take, hr]; omega
  have hpc : pieceCount (strOfNums ((rbs l l.length).take n)) = l.length := by unfold pieceCount; rw [hsz]; omega
  unfold refTextAns textOf
  by_cases hneg : l.any (fun x => decide (x < 0)) = true
  · rw [if_pos hneg, if_pos]
    obtain ⟨x, hx, h⟩ := List.any_eq_true.1 hneg
    exact List.any_eq_true.2 ⟨x, hx, by unfold offWord; rw [h]; rfl⟩
  rw [if_neg hneg]
  unfold refEnd
  by_cases hoff : l.any offWord = true
  · rw [if_pos hoff, if_neg]
    intro hc
    obtain ⟨x, hx, h⟩ := List.any_eq_true.1 hoff
    obtain ⟨j, hj, he⟩ := List.mem_iff_getElem.1 hx
    have e1 := wordsOf_get (strOfNums ((rbs l l.length).take n)) j (by rw [hpc]; exact hj)
    rw [eq_of_beq hc, List.getElem?_eq_getElem hj, he] at e1
    injection e1 with e1
    have b := wd_lt (strOfNums ((rbs l l.length).take n)) j
    rw [← e1] at b
    unfold offWord at h
    simp at h
    omega
  rw [if_neg hoff]
  have hoff' : l.any offWord = false := by simpa using hoff
  rw [rbs_small l hoff' l.length (Nat.le_refl _)] at hsz hpc ⊢
  have hbl := bsTo_len l l.length (Nat.le_refl _)
  have hbg := bs_get l l.length (Nat.le_refl _)
  have hgd : ∀ j, j < l.length → 0 ≤ l.getD j 0 ∧ l.getD j 0 < 72057594037927936 := by
    intro j hj
    have ho := (List.any_eq_false.1 hoff') (l.getD j 0) (List.mem_of_getElem? (i := j) (by rw [List.getD_eq_getElem?_getD, List.getElem?_eq_getElem hj]; rfl))
    unfold offWord at ho
    simp at ho
    exact ⟨by simpa using ho.1, by simpa using ho.2⟩
  have hby : ∀ j i, j < l.length → i < 7 → (byteAt (strOfNums ((bsTo l l.length).take n)) (7 * j + i) : Int) = if i < n - 7 * j then bAt (l.getD j 0) i else 0 := by
    intro j i hj hi
    by_cases h : i < n - 7 * j
    · rw [if_pos h, byteAt_eq (by rw [hsz]; omega)]
      have hb := bAt_range (l.getD j 0) i
      have hg : ((strOfNums ((bsTo l l.length).take n)).data.toList)[7 * j + i]? = some (UInt8.ofNat (bAt (l.getD j 0) i).toNat) := by
        rw [strOfNums_data, List.getElem?_map, List.getElem?_take, if_pos (by omega), hbg j i hj hi]; rfl
      have hg2 : ((strOfNums ((bsTo l l.length).take n))[7 * j + i]'(by rw [hsz]; omega)) = UInt8.ofNat (bAt (l.getD j 0) i).toNat := by
        rw [List.getElem?_eq_getElem (by show _ < (strOfNums ((bsTo l l.length).take n)).size; rw [hsz]; omega)] at hg
        injection hg
      rw [hg2, UInt8.toNat_ofNat']
      omega
    · rw [if_neg h]
      unfold byteAt
      rw [dif_neg (by rw [hsz]; omega)]; rfl
  have hwd : ∀ j, j < l.length → wd (strOfNums ((bsTo l l.length).take n)) j = acc7 (fun i => if i < n - 7 * j then bAt (l.getD j 0) i else 0) 7 := by
    intro j hj
    unfold wd
    exact acc7_congr 7 (fun i hi => hby j i hj hi)
  have key : (wordsOf (strOfNums ((bsTo l l.length).take n)) = l) ↔ ((bsTo l l.length).drop n).any (fun b => decide (b ≠ 0)) = false := by
    constructor
    · intro he
      refine List.any_eq_false.2 (fun b hb => ?_)
      obtain ⟨q, hq, hbq⟩ := List.mem_iff_getElem.1 hb
      rw [List.length_drop, hbl] at hq
      rw [List.getElem_drop] at hbq
      obtain ⟨j, i, hi, hji⟩ : ∃ j i, i < 7 ∧ n + q = 7 * j + i := ⟨(n + q) / 7, (n + q) % 7, by omega, by omega⟩
      have hj : j < l.length := by omega
      have e1 := wordsOf_get (strOfNums ((bsTo l l.length).take n)) j (by rw [hpc]; exact hj)
      rw [he, List.getElem?_eq_getElem hj, hwd j hj] at e1
      injection e1 with e1
      have e2 : l.getD j 0 = l[j] := by rw [List.getD_eq_getElem?_getD, List.getElem?_eq_getElem hj]; rfl
      rw [← e2] at e1
      have z := (digits (l.getD j 0) (hgd j hj).1 (hgd j hj).2 (n - 7 * j)).1 e1.symm i hi (by omega)
      have hg := hbg j i hj hi
      rw [← hji, List.getElem?_eq_getElem (by rw [hbl]; omega), z] at hg
      injection hg with hg
      rw [hg] at hbq
      rw [← hbq]
      simp
    · intro hz
      refine List.ext_getElem? (fun j => ?_)
      by_cases hj : j < l.length
      · rw [wordsOf_get _ j (by rw [hpc]; exact hj), List.getElem?_eq_getElem hj, hwd j hj]
        have e2 : l.getD j 0 = l[j] := by rw [List.getD_eq_getElem?_getD, List.getElem?_eq_getElem hj]; rfl
        rw [← e2]
        congr 1
        refine (digits (l.getD j 0) (hgd j hj).1 (hgd j hj).2 (n - 7 * j)).2 (fun i hi hm => ?_)
        have hg := hbg j i hj hi
        have hmem : bAt (l.getD j 0) i ∈ (bsTo l l.length).drop n := by
          refine List.mem_of_getElem? (i := 7 * j + i - n) ?_
          rw [List.getElem?_drop, show n + (7 * j + i - n) = 7 * j + i by omega]
          exact hg
        have := (List.any_eq_false.1 hz) _ hmem
        simpa using this
      · rw [List.getElem?_eq_none (by rw [wordsOf_len, hpc]; omega), List.getElem?_eq_none (by omega)]
  by_cases hz : ((bsTo l l.length).drop n).any (fun b => decide (b ≠ 0)) = true
  · rw [if_pos hz, if_neg]
    intro hc
    rw [key.1 (eq_of_beq hc)] at hz
    cases hz
  · rw [if_neg hz, if_pos]
    rw [key.2 (by simpa using hz)]
    simp
theorem reft_is (k : Nat) (l : List Int) (n : Nat) (hln : l.length = (n + 6) / 7) (hl : l.length ≤ 10000000) (hk : 18 * l.length + 30 < k) : RR.lamplighterref02_Text.f k l (n : Int) = some (textOf l n) := by
  rw [reft_f k l n (by omega) hl hk, refText_is l n hln]
end Go.Proofs.Ytliaemoomhfcdaa
