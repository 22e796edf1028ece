/- Plain facts on the leaves of a sound arena, and on where a look among them ends. -/
import Derived.Test.YtliaemoomhfcdaaMD
import Derived.Test.YtliaemoomhfcdaaMF
namespace Go.Proofs.Ytliaemoomhfcdaa
open Go.RowKit Go.Proofs.YtliaemoomhfcdaaW.PrintWords
set_option linter.unusedVariables false
set_option linter.unusedSimpArgs false
set_option maxRecDepth 1000000

theorem awake15 : AW.lamplighterlaw15_awake.f = some true := by kernel_rfl
theorem bl_trans : ∀ (x y z : List UInt8), Op.bytesLess x y = true → Op.bytesLess y z = true → Op.bytesLess x z = true := by
  intro x y z h1 h2
  rw [bytesLess_eq, decide_eq_true_eq] at *
  exact List.lt_trans h1 h2
theorem bl_irr (x : List UInt8) : Op.bytesLess x x = false := by
  rw [bytesLess_eq, decide_eq_false_iff_not]
  exact List.lt_irrefl x
theorem ltS_trans {a b c : ByteArray} (h1 : ltS a b = true) (h2 : ltS b c = true) : ltS a c = true := bl_trans _ _ _ h1 h2
theorem ltS_irr (a : ByteArray) : ltS a a = false := bl_irr _
theorem ltS_asymm {a b : ByteArray} (h1 : ltS a b = true) : ltS b a = false := by
  cases h : ltS b a with
  | false => rfl
  | true => have := ltS_trans h1 h; rw [ltS_irr] at this; cases this
/-- From which key on a node is, that there is one of. -/
def lowAt (ws : List Int) (b : Int) : ByteArray := (lowOfP ws (nodeRead ws b).1.low).1
/-- These are the leaves from a block on. -/
def Ch (ws : List Int) : Int → List Int → Prop
  | b, [] => b = 0
  | b, x :: t => x = b ∧ b ≠ 0 ∧ (nodeRead ws b).2 = 0 ∧ (nodeRead ws b).1.level = 0 ∧ (nodeRead ws b).1.next ≠ b ∧ Ch ws (nodeRead ws b).1.next t
theorem leavesGo_not {ws : List Int} {n : Nat} {out : List Int} {b : Int} (hb : b ≠ 0) (hc : out.contains b = true) : leavesGo ws n out b = none := by
  cases n with
  | zero => rw [leavesGo, if_neg hb]
  | succ n => rw [leavesGo, if_neg hb, if_neg (by rw [hc]; simp)]
theorem leavesGo_ch (ws : List Int) : ∀ (n : Nat) (out : List Int) (b : Int) (l : List Int), leavesGo ws n out b = some l → ∃ t, l = out ++ t ∧ Ch ws b t
  | 0, out, b, l, h => by
    rw [leavesGo] at h
    split at h
    · injection h with h; exact ⟨[], by simp [h], by rename_i hb; exact hb⟩
    · cases h
  | n + 1, out, b, l, h => by
    rw [leavesGo] at h
    split at h
    · injection h with h; exact ⟨[], by simp [h], by rename_i hb; exact hb⟩
    · rename_i hb
      split at h
      · rename_i hc
        obtain ⟨t, rfl, ht⟩ := leavesGo_ch ws n _ _ _ h
        refine ⟨b :: t, by simp, rfl, hb, hc.1, hc.2.1, ?_, ht⟩
        intro he
        rw [he, leavesGo_not hb (by simp)] at h
        cases h
      · cases h
theorem leaves_ch {ws l : List Int} (h : leavesRead ws = some l) : Ch ws 1 l := by
  unfold leavesRead at h
  split at h
  · obtain ⟨t, rfl, ht⟩ := leavesGo_ch ws _ _ _ _ h
    simpa using ht
  · cases h
theorem leafOk_parts {ws : List Int} {f : Bool} {last : ByteArray} {b : Int} (h : leafOk ws f last b = true) : (nodeRead ws b).2 = 0 ∧ (lowOfP ws (nodeRead ws b).1.low).2 = 0 ∧ lowsOk ws f last b = true := by
  unfold leafOk at h
  simp only [Bool.and_eq_true, decide_eq_true_eq] at h
  exact ⟨h.1.1.1, h.1.1.2, h.1.2⟩
theorem leavesOk_cons {ws : List Int} {f : Bool} {last : ByteArray} {b : Int} {t : List Int} (h : leavesOk ws f last (b :: t) = true) : leafOk ws f last b = true ∧ leavesOk ws false (lowAt ws b) t = true := by
  rw [leavesOk] at h
  simp only [Bool.and_eq_true] at h
  exact h
/-- All leaves behind one are from keys behind its own on. -/
theorem lows_above {ws : List Int} : ∀ (t : List Int) (last : ByteArray), leavesOk ws false last t = true → ∀ x ∈ t, ltS last (lowAt ws x) = true
  | [], _, _, x, hx => by cases hx
  | b :: t, last, h, x, hx => by
    obtain ⟨h1, h2⟩ := leavesOk_cons h
    obtain ⟨_, _, h3⟩ := leafOk_parts h1
    have h4 : ltS last (lowAt ws b) = true := by unfold lowsOk at h3; rw [if_neg (by simp)] at h3; exact h3
    rcases List.mem_cons.1 hx with rfl | hx
    · exact h4
    · exact ltS_trans h4 (lows_above t _ h2 x hx)
theorem lowRead_at {ws : List Int} {b : Int} (h : (nodeRead ws b).2 = 0) : lowRead ws b = lowOfP ws (nodeRead ws b).1.low := by
  unfold lowRead; rw [if_pos h]
theorem from_leaf {ws : List Int} {b : Int} (h1 : (nodeRead ws b).2 = 0) (h2 : (lowOfP ws (nodeRead ws b).1.low).2 = 0) (h3 : (nodeRead ws b).1.level = 0) : fromRead ws b = (0, lowAt ws b, true) := by
  unfold fromRead lowAt
  rw [if_pos h1, lowRead_at h1, h2, h3]
  rfl
/-- A step among leaves: to the next one, if the key is not ahead of it; or none. -/
theorem down_leaf {ws : List Int} {b : Int} {key : ByteArray} (h1 : (nodeRead ws b).2 = 0) (h2 : (nodeRead ws b).1.level = 0) (h3 : (nodeRead ws b).1.next ≠ b)
    (hn : (nodeRead ws b).1.next ≠ 0 → fromRead ws (nodeRead ws b).1.next = (0, lowAt ws (nodeRead ws b).1.next, true)) :
    downRead ws b key 0 = if (nodeRead ws b).1.next = 0 then (b, 0) else if ltS key (lowAt ws (nodeRead ws b).1.next) = true then (b, 0) else ((nodeRead ws b).1.next, 0) := by
  unfold downRead downSide downChild
  rw [if_neg (by simpa using h1), if_neg (by omega)]
  by_cases h0 : (nodeRead ws b).1.next = 0
  · rw [if_pos h0, if_pos h0]
    simp only
    rw [if_neg (by omega)]
  · rw [if_neg h0, if_neg h0, if_neg h3, hn h0, if_neg (by simp), if_neg (by simp [h2])]
    cases hk : ltS key (lowAt ws (nodeRead ws b).1.next) with
    | true =>
      rw [if_pos rfl, if_pos rfl]
      simp only
      rw [if_neg (by omega)]
    | false =>
      rw [if_neg (show ¬ (false = true) by simp), if_neg (show ¬ (false = true) by simp)]
/-- Where a look among leaves ends: at the last one that the key is not ahead of. -/
theorem find_leaf {ws : List Int} : ∀ (t : List Int) (b : Int) (f : Bool) (last : ByteArray), Ch ws b t → leavesOk ws f last t = true →
    ∀ (i : Nat) (x : Int), t[i]? = some x → ∀ n, i < n → findGo ws (lowAt ws x) 0 n b = (x, 0)
  | [], b, f, last, _, _, i, x, hx, n, hn => by simp at hx
  | c :: t, b, f, last, hc, ho, i, x, hx, n, hn => by
    obtain ⟨rfl, h0, h1, h2, h3, ht⟩ := hc
    obtain ⟨ho1, ho2⟩ := leavesOk_cons ho
    obtain ⟨n, rfl⟩ : ∃ m, n = m + 1 := ⟨n - 1, by omega⟩
    have hnext : (nodeRead ws c).1.next ≠ 0 → fromRead ws (nodeRead ws c).1.next = (0, lowAt ws (nodeRead ws c).1.next, true) := by
      intro hz
      cases t with
      | nil => exact absurd ht hz
      | cons d t =>
        obtain ⟨rfl, k0, k1, k2, k3, kt⟩ := ht
        exact from_leaf k1 (leafOk_parts (leavesOk_cons ho2).1).2.1 k2
    have hd := down_leaf (key := lowAt ws x) h1 h2 h3 hnext
    rw [findGo_succ]
    cases i with
    | zero =>
      simp only [List.getElem?_cons_zero, Option.some.injEq] at hx
      subst hx
      have hstay : downRead ws c (lowAt ws c) 0 = (c, 0) := by
        rw [hd]
        by_cases hz : (nodeRead ws c).1.next = 0
        · rw [if_pos hz]
        · rw [if_neg hz]
          cases t with
          | nil => exact absurd ht hz
          | cons d t =>
            obtain ⟨rfl, _⟩ := ht
            rw [if_pos (lows_above _ _ ho2 _ List.mem_cons_self)]
      rw [hstay]
      simp
    | succ i =>
      simp only [List.getElem?_cons_succ] at hx
      cases t with
      | nil => simp at hx
      | cons d t =>
        have ht' := ht
        obtain ⟨rfl, k0, k1, k2, k3, kt⟩ := ht
        have hle : ltS (lowAt ws x) (lowAt ws (nodeRead ws c).1.next) = false := by
          have hmem := List.mem_of_getElem? hx
          rcases List.mem_cons.1 hmem with hh | hh
          · rw [hh]; exact ltS_irr _
          · exact ltS_asymm (lows_above _ _ (leavesOk_cons ho2).2 _ hh)
        have hgo : downRead ws c (lowAt ws x) 0 = ((nodeRead ws c).1.next, 0) := by
          rw [hd, if_neg k0, if_neg (by rw [hle]; simp)]
        rw [hgo]
        simp only
        rw [if_neg (by simp), if_neg h3]
        exact find_leaf _ _ false _ ht' ho2 i x hx n (by omega)
theorem leavesOk_mem {ws : List Int} : ∀ (t : List Int) (f : Bool) (last : ByteArray), leavesOk ws f last t = true → ∀ x ∈ t, lowRead ws x = (lowAt ws x, 0)
  | [], _, _, _, x, hx => by cases hx
  | b :: t, f, last, h, x, hx => by
    obtain ⟨h1, h2⟩ := leavesOk_cons h
    obtain ⟨a1, a2, _⟩ := leafOk_parts h1
    rcases List.mem_cons.1 hx with rfl | hx
    · rw [lowRead_at a1]; exact Prod.ext rfl a2
    · exact leavesOk_mem t _ _ h2 x hx
theorem look_parts {ws : List Int} (h : checkRead ws = 0) : ∃ l, leavesRead ws = some l ∧ leavesOk ws true ⟨#[]⟩ l = true := by
  unfold checkRead at h
  split at h
  · rename_i hs
    unfold lookRead at hs
    cases hl : leavesRead ws with
    | none => rw [hl] at hs; cases hs
    | some l =>
      rw [hl] at hs
      simp only at hs
      refine ⟨l, rfl, ?_⟩
      cases ho : leavesOk ws true ⟨#[]⟩ l with
      | true => rfl
      | false => rw [ho] at hs; cases hs
  · cases h
end Go.Proofs.Ytliaemoomhfcdaa
