/- What the reference's words of a record, and its reading of one, tell in plain words. -/
import Derived.Test.YtliaemoomhfcdaaRefC
namespace Go.Proofs.Ytliaemoomhfcdaa
open Go.RowKit Go.Proofs.YtliaemoomhfcdaaW.PrintWords
set_option linter.unusedVariables false
set_option linter.unusedSimpArgs false
set_option maxRecDepth 100000

/-- The reference's reading of a record's words. -/
def refText1 (f : List Int) : ByteArray × Int := textOf ((f.drop 3).take (((f.getD 1 0).toNat / 32 + 6) / 7)) ((f.getD 1 0).toNat / 32)
def refText2 (f : List Int) : ByteArray × Int := if f.getD 0 0 = 1 then textOf ((f.drop 6).take (((f.getD 1 0).toNat % 32 + 6) / 7)) ((f.getD 1 0).toNat % 32) else (⟨#[]⟩, 0)
def refRecOf (f : List Int) : PRec := ⟨f.getD 0 0, (refText1 f).1, (refText2 f).1, if f.getD 0 0 = 1 then 0 else f.getD 6 0⟩
def refRec16 (f : List Int) : PRec × Int :=
  if f.getD 1 0 < 0 ∨ 693 < f.getD 1 0 then (PRec.zero, 70)
  else if (refText1 f).2 = 0 ∧ (refText2 f).2 = 0 ∧ recOk (refRecOf f) = true ∧ recWords (refRecOf f).kind (refRecOf f).key (refRecOf f).val (refRecOf f).child = f then (refRecOf f, 0) else (PRec.zero, 70)
theorem textOf_size (l : List Int) (n : Nat) (hn : n ≤ 7 * l.length) (h : (textOf l n).2 = 0) : (textOf l n).1.size = n := by
  unfold textOf at h ⊢
  split at h
  · simp at h
  · rename_i h1
    rw [if_neg h1]
    split at h
    · simp at h
    · rename_i h2
      rw [if_neg h2]
      show (strOfNums _).size = n
      rw [strOfNums_size, List.length_take, bsTo_len _ _ (Nat.le_refl _)]
      omega
theorem done_none (f : List Int) (is : Bool) (x : PRec) (h : f.getD 1 0 < 0 ∨ 693 < f.getD 1 0) : recDone f is x = (PRec.zero, 70) := by
  unfold recDone
  split
  · rfl
  · split
    · rfl
    · split
      · rename_i h1 h2 h3
        obtain ⟨s1, s2⟩ := ok_sizes (by simpa using h2)
        have e : f.getD 1 0 = 32 * (x.key.size : Int) + (x.val.size : Int) := by rw [← h3]; rfl
        rw [e] at h
        omega
      · rfl
theorem recText_ref (f : List Int) (i n : Nat) (hn : n ≤ 21) : recText f i (n : Int) = ((textOf ((f.drop i).take ((n + 6) / 7)) n).1, (textOf ((f.drop i).take ((n + 6) / 7)) n).2 == 0) := by
  unfold recText
  rw [if_neg (by omega), if_neg (by omega), Int.toNat_natCast]
theorem refRec_is (f : List Int) (hf : f.length = 16) : refRec16 f = recRead16 f := by
  unfold refRec16
  by_cases hr : f.getD 1 0 < 0 ∨ 693 < f.getD 1 0
  · rw [if_pos hr]
    unfold recRead16
    split
    · rfl
    · split
      · rw [done_none f _ _ hr]
      · split
        · rw [done_none f _ _ hr]
        · rw [done_none f _ _ hr]
  rw [if_neg hr]
  obtain ⟨m, hm⟩ : ∃ m : Nat, f.getD 1 0 = (m : Int) := Int.eq_ofNat_of_zero_le (by omega)
  have hm2 : m ≤ 693 := by omega
  have et : wrap64 (Int.tdiv (f.getD 1 0) 32) = ((m / 32 : Nat) : Int) := by rw [hm, Int.tdiv_eq_ediv_of_nonneg (by omega), w64_id (by omega) (by omega)]; omega
  have em : Int.tmod (f.getD 1 0) 32 = ((m % 32 : Nat) : Int) := by rw [hm, Int.tmod_eq_emod_of_nonneg (by omega)]; omega
  have e1 : refText1 f = textOf ((f.drop 3).take ((m / 32 + 6) / 7)) (m / 32) := by unfold refText1; rw [hm, Int.toNat_natCast]
  have e2 : f.getD 0 0 = 1 → refText2 f = textOf ((f.drop 6).take ((m % 32 + 6) / 7)) (m % 32) := by intro h; unfold refText2; rw [if_pos h, hm, Int.toNat_natCast]
  have e3 : ¬ f.getD 0 0 = 1 → refText2 f = (⟨#[]⟩, 0) := by intro h; unfold refText2; rw [if_neg h]
  have step : ∀ x, x = refRecOf f → (refText1 f).2 = 0 → (refText2 f).2 = 0 → (if (refText1 f).2 = 0 ∧ (refText2 f).2 = 0 ∧ recOk (refRecOf f) = true ∧ recWords (refRecOf f).kind (refRecOf f).key (refRecOf f).val (refRecOf f).child = f then (refRecOf f, (0 : Int)) else (PRec.zero, 70)) = recDone f true x := by
    rintro x rfl h1 h2
    by_cases h3 : recOk (refRecOf f) = true
    · by_cases h4 : recWords (refRecOf f).kind (refRecOf f).key (refRecOf f).val (refRecOf f).child = f
      · exact (if_pos ⟨h1, h2, h3, h4⟩).trans (done_ok h3 (beq_iff_eq.2 h4)).symm
      · exact (if_neg (fun h => h4 h.2.2.2)).trans (done_ne h3 (beq_eq_false_iff_ne.2 h4)).symm
    · exact (if_neg (fun h => h3 h.2.2.1)).trans (done_bad f (by simpa using h3)).symm
  unfold recRead16
  rw [et, em, recText_ref f 3 (m / 32) (by omega), ← e1]
  rcases Classical.em ((refText1 f).2 = 0) with h1 | h1
  rotate_left
  · exact (if_neg (fun h => h1 h.1)).trans (if_pos (by simpa using h1)).symm
  refine Eq.trans ?_ (if_neg (by simp [h1])).symm
  by_cases hk : f.getD 0 0 = 1
  · refine Eq.trans ?_ (if_pos hk).symm
    by_cases hv : m % 32 ≤ 21
    · rw [recText_ref f 6 (m % 32) hv, ← e2 hk]
      by_cases h2 : (refText2 f).2 = 0
      · have hx : refRecOf f = ⟨f.getD 0 0, (refText1 f).1, (refText2 f).1, 0⟩ := by unfold refRecOf; rw [if_pos hk]
        have e : ((refText2 f).2 == 0) = true := beq_iff_eq.2 h2
        show _ = recDone f ((refText2 f).2 == 0) _
        rw [e]
        exact step _ hx.symm h1 h2
      · have e : ((refText2 f).2 == 0) = false := beq_eq_false_iff_ne.2 h2
        refine (if_neg (fun h => h2 h.2.1)).trans ?_
        show _ = recDone f ((refText2 f).2 == 0) _
        rw [e, done_no]
    · have hno : recText f 6 ((m % 32 : Nat) : Int) = (⟨#[]⟩, false) := by unfold recText; rw [if_neg (by omega), if_pos (by omega)]
      rw [hno]
      refine (if_neg ?_).trans (done_no f _).symm
      rintro ⟨_, h2, h3, _⟩
      have := textOf_size ((f.drop 6).take ((m % 32 + 6) / 7)) (m % 32) (by rw [List.length_take, List.length_drop, hf]; omega) (by rw [← e2 hk]; exact h2)
      rw [← e2 hk] at this
      have := (ok_sizes h3).2
      have e : (refRecOf f).val = (refText2 f).1 := rfl
      rw [e] at this
      omega
  · refine Eq.trans ?_ (if_neg hk).symm
    have hx : refRecOf f = ⟨f.getD 0 0, (refText1 f).1, ⟨#[]⟩, f.getD 6 0⟩ := by unfold refRecOf; rw [if_neg hk, e3 hk]
    have h2 : (refText2 f).2 = 0 := by rw [e3 hk]
    by_cases hk2 : f.getD 0 0 = 2
    · refine Eq.trans ?_ (if_pos hk2).symm
      exact step _ hx.symm h1 h2
    · refine Eq.trans ?_ (if_neg hk2).symm
      have hno : ∀ a b c, recOk ⟨f.getD 0 0, a, b, c⟩ = false := by intro a b c; unfold recOk; rw [if_neg hk, if_neg hk2]
      refine Eq.trans (if_neg ?_) (done_bad f (hno _ _ _)).symm
      intro h
      rw [hx, hno] at h
      cases h.2.2.1
end Go.Proofs.Ytliaemoomhfcdaa
