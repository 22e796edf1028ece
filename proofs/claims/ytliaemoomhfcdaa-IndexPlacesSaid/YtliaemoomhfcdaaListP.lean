/- Plain facts on lists of pairs: with a pair, without a key, a key's value, and keys that rise. -/
import Derived.Test.YtliaemoomhfcdaaWithW
import Derived.Test.YtliaemoomhfcdaaLowsF
namespace Go.Proofs.Ytliaemoomhfcdaa
open Go.RowKit Go.Proofs.YtliaemoomhfcdaaW.PrintWords
set_option linter.unusedVariables false
set_option linter.unusedSimpArgs false

theorem bl_tri (x y : List UInt8) (h : Op.bytesLess x y = false) (hne : x ≠ y) : Op.bytesLess y x = true := by
  rw [bytesLess_eq, decide_eq_false_iff_not] at h
  rw [bytesLess_eq, decide_eq_true_eq]
  have h1 : y ≤ x := List.not_lt.1 h
  rcases Classical.em (y < x) with h2 | h2
  · exact h2
  · exact absurd (List.le_antisymm (List.not_lt.1 h2) h1) hne
theorem ltS_tri {a b : ByteArray} (h : ltS a b = false) (hne : a.toList ≠ b.toList) : ltS b a = true := bl_tri _ _ h hne
theorem ltS_cong {a b c d : ByteArray} (h : a.toList = c.toList) (h2 : b.toList = d.toList) : ltS a b = ltS c d := by unfold ltS; rw [h, h2]
def Rise (l : List KV) : Prop := l.Pairwise (fun a b => ltS a.1 b.1 = true)
theorem keyIs_iff {key : ByteArray} {p : KV} : keyIs key p = true ↔ p.1.toList = key.toList := by simp [keyIs]
theorem without_mem {l : List KV} {key : ByteArray} {x : KV} (h : x ∈ withoutOf l key) : x ∈ l ∧ keyIs key x = false := by
  unfold withoutOf at h
  obtain ⟨h1, h2⟩ := List.mem_filter.1 h
  exact ⟨h1, by simpa using h2⟩
theorem without_len (l : List KV) (key : ByteArray) : (withoutOf l key).length ≤ l.length := List.length_filter_le _ _
theorem with_len (l : List KV) (key val : ByteArray) : (withOf l key val).length = (withoutOf l key).length + 1 := insOf_len _ _ _ List.findIdx_le_length
theorem find_none_of {l : List KV} {key : ByteArray} (h : ∀ x ∈ l, keyIs key x = false) : l.find? (keyIs key) = none := by
  rw [List.find?_eq_none]
  intro x hx
  rw [h x hx]
  simp
theorem get_with (l : List KV) (key val : ByteArray) : getOf (withOf l key val) key = (val, true) := by
  have h : (withOf l key val).find? (keyIs key) = some (key, val) := by
    unfold withOf insOf
    rw [List.find?_append, find_none_of (fun x hx => (without_mem (List.mem_of_mem_take hx)).2), List.find?_cons]
    rw [show keyIs key (key, val) = true from by simp [keyIs]]
    rfl
  unfold getOf
  rw [h]
theorem get_without (l : List KV) (key : ByteArray) : getOf (withoutOf l key) key = (⟨#[]⟩, false) := by
  unfold getOf
  rw [find_none_of (fun x hx => (without_mem hx).2)]
theorem find_ins (p : KV → Bool) (o : List KV) (i : Nat) (x : KV) (h : p x = false) : (insOf o i x).find? p = o.find? p := by
  unfold insOf
  rw [List.find?_append, List.find?_cons, h]
  simp only
  rw [← List.find?_append, List.take_append_drop]
theorem find_without (l : List KV) (key other : ByteArray) (h : other.toList ≠ key.toList) : (withoutOf l key).find? (keyIs other) = l.find? (keyIs other) := by
  unfold withoutOf
  rw [List.find?_filter]
  congr 1
  funext x
  cases ho : keyIs other x with
  | false => simp
  | true =>
    cases hk : keyIs key x with
    | false => rfl
    | true => exact absurd ((keyIs_iff.1 ho).symm.trans (keyIs_iff.1 hk)) h
theorem get_without_other (l : List KV) (key other : ByteArray) (h : other.toList ≠ key.toList) : getOf (withoutOf l key) other = getOf l other := by
  unfold getOf
  rw [find_without l key other h]
theorem get_with_other (l : List KV) (key val other : ByteArray) (h : other.toList ≠ key.toList) : getOf (withOf l key val) other = getOf l other := by
  unfold getOf withOf
  rw [find_ins _ _ _ _ (by cases hk : keyIs other (key, val) with | false => rfl | true => exact absurd (keyIs_iff.1 hk).symm h), find_without l key other h]
theorem rise_without {l : List KV} (key : ByteArray) (h : Rise l) : Rise (withoutOf l key) := List.Pairwise.filter _ h
theorem before_idx {o : List KV} {p : KV → Bool} {x : KV} (hx : x ∈ o.take (o.findIdx p)) : p x = false := by
  obtain ⟨j, hj, rfl⟩ := List.mem_iff_getElem.1 hx
  rw [List.length_take] at hj
  rw [List.getElem_take]
  have := List.not_of_lt_findIdx (p := p) (xs := o) (show j < o.findIdx p by omega)
  simpa using this
theorem after_idx {o : List KV} {key : ByteArray} (h : Rise o) {x : KV} (hx : x ∈ o.drop (o.findIdx (keyGt key))) : ltS key x.1 = true := by
  by_cases hlt : o.findIdx (keyGt key) < o.length
  · rw [List.drop_eq_getElem_cons hlt] at hx
    have hhit : keyGt key o[o.findIdx (keyGt key)] = true := List.findIdx_getElem (p := keyGt key) (xs := o) (w := hlt)
    rcases List.mem_cons.1 hx with rfl | hx
    · exact hhit
    · have hp : (o.drop (o.findIdx (keyGt key))).Pairwise (fun a b => ltS a.1 b.1 = true) := List.Pairwise.sublist (List.drop_sublist _ _) h
      rw [List.drop_eq_getElem_cons hlt, List.pairwise_cons] at hp
      exact ltS_trans hhit (hp.1 x hx)
  · rw [List.drop_eq_nil_of_le (by omega)] at hx
    cases hx
theorem rise_with {l : List KV} (key val : ByteArray) (h : Rise l) : Rise (withOf l key val) := by
  have ho := rise_without key h
  have hne : ∀ x ∈ withoutOf l key, x.1.toList ≠ key.toList := fun x hx e => by
    have := (without_mem hx).2
    rw [keyIs_iff.2 e] at this
    cases this
  unfold withOf
  generalize withoutOf l key = o at ho hne
  unfold Rise insOf
  rw [List.pairwise_append]
  refine ⟨List.Pairwise.sublist (List.take_sublist _ _) ho, ?_, ?_⟩
  · rw [List.pairwise_cons]
    exact ⟨fun x hx => after_idx ho hx, List.Pairwise.sublist (List.drop_sublist _ _) ho⟩
  · intro a ha b hb
    have h1 : ltS a.1 key = true := ltS_tri (before_idx ha) (fun e => hne a (List.mem_of_mem_take ha) e.symm)
    rcases List.mem_cons.1 hb with rfl | hb
    · exact h1
    · exact ltS_trans h1 (after_idx ho hb)
end Go.Proofs.Ytliaemoomhfcdaa
