/- What the reference's words of a record, and its reading of one, tell in plain words. -/
import Derived.Test.YtliaemoomhfcdaaRefU
namespace Go.Proofs.Ytliaemoomhfcdaa
open Go.RowKit Go.Proofs.YtliaemoomhfcdaaW.PrintWords
set_option linter.unusedVariables false
set_option linter.unusedSimpArgs false
set_option maxRecDepth 100000

theorem empty_iff (s : ByteArray) : s.toList = ([] : List UInt8) ↔ s.size = 0 := by
  rw [ByteArray.toList_eq]
  obtain ⟨⟨l⟩⟩ := s
  show l = [] ↔ l.length = 0
  rw [List.length_eq_zero_iff]
theorem refrc_f (kind : Int) (key val : ByteArray) (child : Int) : RR.lamplighterref07_Check.f kind key val child = some (recOk ⟨kind, key, val, child⟩) := by
  unfold RR.lamplighterref07_Check.f RR.lamplighterref02_Check.f RR.lamplighterref02_CheckVal.f recOk
  have k1 : (if (key.size : Int) ≥ 1 then some (decide ((key.size : Int) ≤ 21)) else some false) = some (decide (1 ≤ key.size) && decide (key.size ≤ 21)) := by
    by_cases h : (key.size : Int) ≥ 1
    · rw [if_pos h, decide_eq_true (show 1 ≤ key.size by omega), Bool.true_and]
      exact congrArg some (decide_eq_decide.2 (by omega))
    · rw [if_neg h, decide_eq_false (show ¬ 1 ≤ key.size by omega), Bool.false_and]
  have k2 : decide ((val.size : Int) ≤ 21) = decide (val.size ≤ 21) := decide_eq_decide.2 (by omega)
  rw [k1, k2]
  simp only [Option.bind_some, empty_iff]
  have k3 : (child == 0) = decide (child = 0) := rfl
  rw [k3]
  by_cases h1 : kind = 1
  · rw [if_pos h1, if_pos h1]
    cases (decide (1 ≤ key.size) && decide (key.size ≤ 21)) <;> cases decide (val.size ≤ 21) <;> rfl
  · rw [if_neg h1, if_neg h1]
    by_cases h2 : kind = 2
    · rw [if_pos h2, if_pos h2]
      have kc : (if child ≥ 1 then some (decide (child ≤ 255)) else some false) = some (decide (0 < child) && decide (child < 256)) := by
        by_cases h : child ≥ 1
        · rw [if_pos h, decide_eq_true (show 0 < child by omega), Bool.true_and]
          exact congrArg some (decide_eq_decide.2 (by omega))
        · rw [if_neg h, decide_eq_false (show ¬ 0 < child by omega), Bool.false_and]
      rw [kc]
      by_cases hk : key.size = 0
      · have e1 : (decide (1 ≤ key.size) && decide (key.size ≤ 21)) = false := by rw [decide_eq_false (by omega)]; rfl
        rw [e1, if_neg (by simp), if_pos hk, decide_eq_true (show key.size ≤ 21 by omega)]
        by_cases hv : val.size = 0
        · rw [if_pos hv, decide_eq_true hv]; simp
        · rw [if_neg hv, decide_eq_false hv]; simp
      · by_cases hs : key.size ≤ 21
        · have e1 : (decide (1 ≤ key.size) && decide (key.size ≤ 21)) = true := by rw [decide_eq_true (show 1 ≤ key.size by omega), decide_eq_true hs]; rfl
          rw [e1, if_pos rfl, decide_eq_true hs]
          by_cases hv : val.size = 0
          · rw [if_pos hv, decide_eq_true hv]; simp
          · rw [if_neg hv, decide_eq_false hv]; simp
        · have e1 : (decide (1 ≤ key.size) && decide (key.size ≤ 21)) = false := by rw [decide_eq_false hs, Bool.and_false]
          rw [e1, if_neg (by simp), if_neg hk, decide_eq_false hs]; simp
    · rw [if_neg h2, if_neg h2]
theorem reft3_l0 : ∀ (d : Nat) (l : List Int), l.length + d = 3 → ∀ k, d < k → RR.lamplighterref07_three.l0 k l = some (l ++ List.replicate d 0) := by
  intro d
  induction d with
  | zero =>
    intro l hl k hk
    obtain ⟨k, rfl⟩ : ∃ m, k = m + 1 := ⟨k - 1, by omega⟩
    rw [RR.lamplighterref07_three.l0, if_neg (by omega)]
    simp
  | succ d ih =>
    intro l hl k hk
    obtain ⟨k, rfl⟩ : ∃ m, k = m + 1 := ⟨k - 1, by omega⟩
    rw [RR.lamplighterref07_three.l0, if_pos (by omega), if_pos (by omega), ih (l ++ [0]) (by simp; omega) k (by omega)]
    rw [List.append_assoc, List.replicate_succ]
    rfl
theorem pad_three : ∀ l : List Int, l.length ≤ 3 → l ++ List.replicate (3 - l.length) 0 = [pad3 l 0, pad3 l 1, pad3 l 2]
  | [], _ => rfl
  | [x], _ => rfl
  | [x, y], _ => rfl
  | [x, y, z], _ => rfl
  | x :: y :: z :: u :: l, h => by simp at h
theorem reft3_f (k : Nat) (s : ByteArray) (hs : s.size ≤ 21) (hk : 60 < k) : RR.lamplighterref07_three.f k s = some [pad3 (wordsOf s) 0, pad3 (wordsOf s) 1, pad3 (wordsOf s) 2] := by
  have hl : (wordsOf s).length ≤ 3 := by rw [wordsOf_len]; unfold pieceCount; omega
  unfold RR.lamplighterref07_three.f
  rw [Option.bind_some, refw_f k s (by omega) (by unfold pieceCount; omega), Option.bind_some, if_pos (by simp; omega), List.nil_append, reft3_l0 (3 - (wordsOf s).length) _ (by omega) k (by omega), pad_three _ hl]
theorem refrw_f (k : Nat) (kind : Int) (key val : ByteArray) (child : Int) (hk : 60 < k) :
    RR.lamplighterref07_Words.f k kind key val child = some (if recOk ⟨kind, key, val, child⟩ = true then (recWords kind key val child, 0) else ([], 70)) := by
  unfold RR.lamplighterref07_Words.f
  rw [refrc_f, Option.bind_some]
  by_cases hok : recOk ⟨kind, key, val, child⟩ = true
  · rw [if_pos hok, if_pos hok]
    obtain ⟨s1, s2⟩ := ok_sizes hok
    simp only at s1 s2
    have ew : wrap64 (wrap64 (32 * (key.size : Int)) + (val.size : Int)) = 32 * (key.size : Int) + (val.size : Int) := by rw [w64_id (x := 32 * (key.size : Int)) (by omega) (by omega), w64_id (by omega) (by omega)]
    rw [reft3_f k key s1 hk, Option.bind_some]
    by_cases h1 : kind = 1
    · rw [if_pos h1, reft3_f k val s2 hk]
      simp only [Option.bind_some, ew, RR.lamplighterref03_Of.f]
      simp only [List.length_append, List.length_cons, List.length_nil, List.nil_append, List.cons_append]
      simp
      unfold recWords recList
      rw [if_neg (by omega)]
    · rw [if_neg h1]
      have h2 : kind = 2 ∧ val.size = 0 := by
        unfold recOk at hok
        rw [if_neg h1] at hok
        split at hok
        · simp only [Bool.and_eq_true, decide_eq_true_eq] at hok; exact ⟨by assumption, hok.1.1.2⟩
        · cases hok
      have hv : wordsOf val = [] := List.eq_nil_of_length_eq_zero (by rw [wordsOf_len]; unfold pieceCount; omega)
      simp only [Option.bind_some, ew, RR.lamplighterref03_Of.f]
      simp only [List.length_append, List.length_cons, List.length_nil, List.nil_append, List.cons_append]
      simp
      unfold recWords recList
      rw [if_pos h2.1, hv]
      rfl
  · rw [if_neg hok, if_neg hok]
/-- The reference's reading of a record's words. -/
def refText1 (f : List Int) : ByteArray × Int := textOf ((f.drop 3).take (((f.getD 1 0).toNat / 32 + 6) / 7)) ((f.getD 1 0).toNat / 32)
def refText2 (f : List Int) : ByteArray × Int := if f.getD 0 0 = 1 then textOf ((f.drop 6).take (((f.getD 1 0).toNat % 32 + 6) / 7)) ((f.getD 1 0).toNat % 32) else (⟨#[]⟩, 0)
def refRecOf (f : List Int) : PRec := ⟨f.getD 0 0, (refText1 f).1, (refText2 f).1, if f.getD 0 0 = 1 then 0 else f.getD 6 0⟩
def refRec16 (f : List Int) : PRec × Int :=
  if f.getD 1 0 < 0 ∨ 693 < f.getD 1 0 then (PRec.zero, 70)
  else if (refText1 f).2 = 0 ∧ (refText2 f).2 = 0 ∧ recOk (refRecOf f) = true ∧ recWords (refRecOf f).kind (refRecOf f).key (refRecOf f).val (refRecOf f).child = f then (refRecOf f, 0) else (PRec.zero, 70)
theorem textOf_size (l : List Int) (n : Nat) (hn : n ≤ 7 * l.length) (h : (textOf l n).2 = 0) : (textOf l n).1.size = n := by
  unfold textOf at h ⊢
  split at h
  · simp at h
  · rename_i h1
    rw [if_neg h1]
    split at h
    · simp at h
    · rename_i h2
      rw [if_neg h2]
      show (strOfNums _).size = n
      rw [strOfNums_size, List.length_take, bsTo_len _ _ (Nat.le_refl _)]
      omega
theorem done_none (f : List Int) (is : Bool) (x : PRec) (h : f.getD 1 0 < 0 ∨ 693 < f.getD 1 0) : recDone f is x = (PRec.zero, 70) := by
  unfold recDone
  split
  · rfl
  · split
    · rfl
    · split
      · rename_i h1 h2 h3
        obtain ⟨s1, s2⟩ := ok_sizes (by simpa using h2)
        have e : f.getD 1 0 = 32 * (x.key.size : Int) + (x.val.size : Int) := by rw [← h3]; rfl
        rw [e] at h
        omega
      · rfl
theorem recText_ref (f : List Int) (i n : Nat) (hn : n ≤ 21) : recText f i (n : Int) = ((textOf ((f.drop i).take ((n + 6) / 7)) n).1, (textOf ((f.drop i).take ((n + 6) / 7)) n).2 == 0) := by
  unfold recText
  rw [if_neg (by omega), if_neg (by omega), Int.toNat_natCast]
theorem refRec_is (f : List Int) (hf : f.length = 16) : refRec16 f = recRead16 f := by
  unfold refRec16
  by_cases hr : f.getD 1 0 < 0 ∨ 693 < f.getD 1 0
  · rw [if_pos hr]
    unfold recRead16
    split
    · rfl
    · split
      · rw [done_none f _ _ hr]
      · split
        · rw [done_none f _ _ hr]
        · rw [done_none f _ _ hr]
  rw [if_neg hr]
  obtain ⟨m, hm⟩ : ∃ m : Nat, f.getD 1 0 = (m : Int) := Int.eq_ofNat_of_zero_le (by omega)
  have hm2 : m ≤ 693 := by omega
  have et : wrap64 (Int.tdiv (f.getD 1 0) 32) = ((m / 32 : Nat) : Int) := by rw [hm, Int.tdiv_eq_ediv_of_nonneg (by omega), w64_id (by omega) (by omega)]; omega
  have em : Int.tmod (f.getD 1 0) 32 = ((m % 32 : Nat) : Int) := by rw [hm, Int.tmod_eq_emod_of_nonneg (by omega)]; omega
  have e1 : refText1 f = textOf ((f.drop 3).take ((m / 32 + 6) / 7)) (m / 32) := by unfold refText1; rw [hm, Int.toNat_natCast]
  have e2 : f.getD 0 0 = 1 → refText2 f = textOf ((f.drop 6).take ((m % 32 + 6) / 7)) (m % 32) := by intro h; unfold refText2; rw [if_pos h, hm, Int.toNat_natCast]
  have e3 : ¬ f.getD 0 0 = 1 → refText2 f = (⟨#[]⟩, 0) := by intro h; unfold refText2; rw [if_neg h]
  have step : ∀ x, x = refRecOf f → (refText1 f).2 = 0 → (refText2 f).2 = 0 → (if (refText1 f).2 = 0 ∧ (refText2 f).2 = 0 ∧ recOk (refRecOf f) = true ∧ recWords (refRecOf f).kind (refRecOf f).key (refRecOf f).val (refRecOf f).child = f then (refRecOf f, (0 : Int)) else (PRec.zero, 70)) = recDone f true x := by
    rintro x rfl h1 h2
    by_cases h3 : recOk (refRecOf f) = true
    · by_cases h4 : recWords (refRecOf f).kind (refRecOf f).key (refRecOf f).val (refRecOf f).child = f
      · exact (if_pos ⟨h1, h2, h3, h4⟩).trans (done_ok h3 (beq_iff_eq.2 h4)).symm
      · exact (if_neg (fun h => h4 h.2.2.2)).trans (done_ne h3 (beq_eq_false_iff_ne.2 h4)).symm
    · exact (if_neg (fun h => h3 h.2.2.1)).trans (done_bad f (by simpa using h3)).symm
  unfold recRead16
  rw [et, em, recText_ref f 3 (m / 32) (by omega), ← e1]
  rcases Classical.em ((refText1 f).2 = 0) with h1 | h1
  rotate_left
  · exact (if_neg (fun h => h1 h.1)).trans (if_pos (by simpa using h1)).symm
  refine Eq.trans ?_ (if_neg (by simp [h1])).symm
  by_cases hk : f.getD 0 0 = 1
  · refine Eq.trans ?_ (if_pos hk).symm
    by_cases hv : m % 32 ≤ 21
    · rw [recText_ref f 6 (m % 32) hv, ← e2 hk]
      by_cases h2 : (refText2 f).2 = 0
      · have hx : refRecOf f = ⟨f.getD 0 0, (refText1 f).1, (refText2 f).1, 0⟩ := by unfold refRecOf; rw [if_pos hk]
        have e : ((refText2 f).2 == 0) = true := beq_iff_eq.2 h2
        show _ = recDone f ((refText2 f).2 == 0) _
        rw [e]
        exact step _ hx.symm h1 h2
      · have e : ((refText2 f).2 == 0) = false := beq_eq_false_iff_ne.2 h2
        refine (if_neg (fun h => h2 h.2.1)).trans ?_
        show _ = recDone f ((refText2 f).2 == 0) _
        rw [e, done_no]
    · have hno : recText f 6 ((m % 32 : Nat) : Int) = (⟨#[]⟩, false) := by unfold recText; rw [if_neg (by omega), if_pos (by omega)]
      rw [hno]
      refine (if_neg ?_).trans (done_no f _).symm
      rintro ⟨_, h2, h3, _⟩
      have := textOf_size ((f.drop 6).take ((m % 32 + 6) / 7)) (m % 32) (by rw [List.length_take, List.length_drop, hf]; omega) (by rw [← e2 hk]; exact h2)
      rw [← e2 hk] at this
      have := (ok_sizes h3).2
      have e : (refRecOf f).val = (refText2 f).1 := rfl
      rw [e] at this
      omega
  · refine Eq.trans ?_ (if_neg hk).symm
    have hx : refRecOf f = ⟨f.getD 0 0, (refText1 f).1, ⟨#[]⟩, f.getD 6 0⟩ := by unfold refRecOf; rw [if_neg hk, e3 hk]
    have h2 : (refText2 f).2 = 0 := by rw [e3 hk]
    by_cases hk2 : f.getD 0 0 = 2
    · refine Eq.trans ?_ (if_pos hk2).symm
      exact step _ hx.symm h1 h2
    · refine Eq.trans ?_ (if_neg hk2).symm
      have hno : ∀ a b c, recOk ⟨f.getD 0 0, a, b, c⟩ = false := by intro a b c; unfold recOk; rw [if_neg hk, if_neg hk2]
      refine Eq.trans (if_neg ?_) (done_bad f (hno _ _ _)).symm
      intro h
      rw [hx, hno] at h
      cases h.2.2.1
end Go.Proofs.Ytliaemoomhfcdaa
