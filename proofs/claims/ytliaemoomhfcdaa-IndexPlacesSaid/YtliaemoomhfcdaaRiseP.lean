/- The keys of a leaf's own pairs rise, and those of all pairs. -/
import Derived.Test.YtliaemoomhfcdaaEndsP
import Derived.Test.YtliaemoomhfcdaaListP
namespace Go.Proofs.Ytliaemoomhfcdaa
open Go.RowKit Go.Proofs.YtliaemoomhfcdaaW.PrintWords
set_option linter.unusedVariables false
set_option linter.unusedSimpArgs false
theorem ltS_below {x y low : ByteArray} (h1 : ltS x low = true) (h2 : ltS y low = false) : ltS x y = true := by
  cases h : ltS x y with
  | true => rfl
  | false =>
    by_cases he : x.toList = y.toList
    · rw [ltS_cong he rfl, h2] at h1; cases h1
    · have := ltS_trans (ltS_tri h he) h1
      rw [h2] at this; cases this
theorem ltS_max {last k u : ByteArray} (h : ltS (maxS last k) u = true) : ltS k u = true := by
  unfold maxS at h
  split at h
  · exact h
  · rename_i hn
    have hn2 : ltS last k = false := by simpa using hn
    by_cases he : last.toList = k.toList
    · rw [← ltS_cong he rfl]; exact h
    · exact ltS_trans (ltS_tri hn2 he) h
theorem slots_rise {ws : List Int} {low : ByteArray} : ∀ (sl : List Int) (f : Bool) (last : ByteArray), slotsOk ws low f last sl = true →
    sl.Pairwise (fun s t => ltS (recRead ws s).1.key (recRead ws t).1.key = true) ∧ (f = false → ∀ s ∈ sl, ltS last (recRead ws s).1.key = true)
  | [], _, _, _ => ⟨List.Pairwise.nil, fun _ s hs => by cases hs⟩
  | x :: t, f, last, h => by
    simp only [slotsOk, Bool.and_eq_true] at h
    obtain ⟨h1, h2⟩ := h
    obtain ⟨p, q⟩ := slots_rise t _ _ h2
    have hx : ∀ u ∈ t, ltS (recRead ws x).1.key (recRead ws u).1.key = true := fun u hu => ltS_max (q rfl u hu)
    refine ⟨List.pairwise_cons.2 ⟨hx, p⟩, fun hf s hs => ?_⟩
    subst hf
    simp only [slotOk, Bool.and_eq_true, Bool.false_or] at h1
    rcases List.mem_cons.1 hs with rfl | hs
    · exact h1.2
    · exact ltS_trans h1.2 (hx s hs)
theorem ownOf_rise {ne : Int} {high : ByteArray} {rc : Int → PRec × Int} : ∀ {l : List Int}, l.Pairwise (fun s t => ltS (rc s).1.key (rc t).1.key = true) → Rise (ownOf ne high rc l)
  | [], _ => List.Pairwise.nil
  | s :: t, h => by
    obtain ⟨p, q⟩ := List.pairwise_cons.1 h
    simp only [ownOf]
    split
    · exact List.Pairwise.nil
    · refine List.pairwise_cons.2 ⟨fun y hy => ?_, ownOf_rise q⟩
      obtain ⟨_, u, hu, rfl⟩ := ownOf_mem hy
      exact p u hu
theorem own_rise {ws : List Int} {f : Bool} {last : ByteArray} {b : Int} (h : leafOk ws f last b = true) : Rise (ownRead ws b) := ownOf_rise (slots_rise _ _ _ (leafOk_slots h)).1
theorem leaves_rise {ws : List Int} : ∀ (t : List Int) (b : Int) (f : Bool) (last : ByteArray), Ch ws b t → leavesOk ws f last t = true → Rise (t.flatMap (ownRead ws))
  | [], _, _, _, _, _ => List.Pairwise.nil
  | z :: t, b, f, last, hc, ho => by
    obtain ⟨rfl, h0, h1, h2, h3, ht⟩ := hc
    obtain ⟨ho1, ho2⟩ := leavesOk_cons ho
    rw [List.flatMap_cons]
    unfold Rise
    rw [List.pairwise_append]
    refine ⟨own_rise ho1, leaves_rise t _ _ _ ht ho2, fun x hx y hy => ?_⟩
    obtain ⟨c, hct, hyc⟩ := List.mem_flatMap.1 hy
    cases t with
    | nil => cases hct
    | cons n t =>
      have hlow := leavesOk_mem _ _ _ ho2 n List.mem_cons_self
      have ht2 := ht
      obtain ⟨rfl, hn0, _⟩ := ht
      have hh := own_high hn0 hx
      rw [hlow] at hh
      have hxc : ltS x.1 (lowAt ws c) = true := by
        rcases List.mem_cons.1 hct with rfl | hct
        · exact hh
        · exact ltS_trans hh (lows_above _ _ (leavesOk_cons ho2).2 c hct)
      have hyl : ltS y.1 (lowAt ws c) = false := by
        obtain ⟨f2, last2, h5⟩ : ∃ f2 last2, leafOk ws f2 last2 c = true := by
          obtain ⟨p, r, hpr⟩ := List.append_of_mem hct
          rw [hpr] at ho2
          obtain ⟨f2, last2, h6⟩ := leavesOk_suffix p _ _ ho2
          exact ⟨f2, last2, (leavesOk_cons h6).1⟩
        exact own_low h5 hyc
      exact ltS_below hxc hyl
end Go.Proofs.Ytliaemoomhfcdaa
