/- What is told of values that came in: the cells of a struct, whatever its fields are, and of the elements of a slice. -/
import Derived.Test.YtdblecmelmeibaaProg
import Derived.Deep.Slices
import Derived.Deep.Fields
import Derived.ChangeSame
import Derived.ChangeArms
import Derived.WideShapes
import Derived.Below
namespace Go.Proofs.Ytdblecmelmeibaa
open Go.ChangeShapes Go.WideShapes Go.Deep Go.RowKit
set_option linter.unusedVariables false

/-- A cell's kind. -/
inductive Leaf where
  | int (k : IntKind)
  | bool
  | str
  | sl
def LeafOk : Leaf → Value → Prop
  | .int k, v => ∃ n, v = .int k n ∧ (Lit.int k n).wf = true
  | .bool, v => ∃ b, v = .bool b
  | .str, v => ∃ s : ByteArray, v = .string s ∧ s.size ≤ maxLen
  | .sl, v => ∃ A n c, v = .slice A n c ∧ n ≤ c ∧ c ≤ maxLen
def leavesF (rec : TypeId → Option (List Leaf)) (cells : TypeId → Nat) : Nat → List Field → Option (List Leaf)
  | _, [] => some []
  | off, f :: fs =>
    if f.offset = off then
      match rec f.type with
      | some l => if cells f.type = l.length then (leavesF rec cells (off + l.length) fs).map (l ++ ·) else none
      | none => none
    else none
def leaves (P : Program) : Nat → TypeId → Option (List Leaf)
  | 0, _ => none
  | n + 1, t =>
    match P.underlying t with
    | some (.int k) => some [.int k]
    | some .bool => some [.bool]
    | some .string => some [.str]
    | some (.slice _) => some [.sl]
    | some (.struct fs) =>
      match leavesF (leaves P n) P.cellsOf 0 fs.toList with
      | some l => if P.cellsOf t = l.length then some l else none
      | none => none
    | _ => none
def LOk (ls : List Leaf) (cs : List Value) : Prop := ls.length = cs.length ∧ ∀ (i : Nat) (l : Leaf) (v : Value), ls[i]? = some l → cs[i]? = some v → LeafOk l v
theorem LOk.one {l : Leaf} {v : Value} (h : LeafOk l v) : LOk [l] [v] := ⟨rfl, fun i l' v' h1 h2 => by
  match i, h1, h2 with
  | 0, h1, h2 => simp at h1 h2; subst h1; subst h2; exact h
  | i + 1, h1, h2 => simp at h1⟩
theorem LOk.append {a b : List Leaf} {c d : List Value} (h : LOk a c) (k : LOk b d) : LOk (a ++ b) (c ++ d) :=
  ⟨by rw [List.length_append, List.length_append, h.1, k.1], fun i l v h1 h2 => by
    by_cases hi : i < a.length
    · rw [List.getElem?_append_left hi] at h1
      rw [List.getElem?_append_left (by rw [← h.1]; exact hi)] at h2
      exact h.2 i l v h1 h2
    · rw [List.getElem?_append_right (by omega)] at h1
      rw [List.getElem?_append_right (by rw [← h.1]; omega), ← h.1] at h2
      exact k.2 _ l v h1 h2⟩
theorem leavesF_ok (rec : TypeId → Option (List Leaf)) (cells : TypeId → Nat) (cs : List Value) :
    ∀ (fs : List Field) (off : Nat) (ls : List Leaf), leavesF rec cells off fs = some ls → cs.length = off + ls.length →
      (∀ f ∈ fs, ∀ l, rec f.type = some l → cells f.type = l.length → LOk l ((cs.drop f.offset).take (cells f.type))) → LOk ls (cs.drop off)
  | [], off, ls, h, hl, _ => by
    simp [leavesF] at h
    subst h
    rw [List.drop_of_length_le (by simpa using Nat.le_of_eq hl)]
    exact ⟨rfl, fun i l v h => by simp at h⟩
  | f :: fs, off, ls, h, hl, hf => by
    rw [leavesF] at h
    split at h
    · rename_i ho
      split at h
      · rename_i l hr
        split at h
        · rename_i hc
          simp only [Option.map_eq_some_iff] at h
          obtain ⟨ls', h', rfl⟩ := h
          have h1 := hf f (by simp) l hr hc
          have h2 := leavesF_ok rec cells cs fs (off + l.length) ls' h' (by rw [hl, List.length_append]; omega) (fun g hg => hf g (by simp [hg]))
          rw [ho, hc] at h1
          have e : cs.drop off = (cs.drop off).take l.length ++ cs.drop (off + l.length) := by
            rw [← List.drop_drop, List.take_append_drop]
          rw [e]
          exact h1.append h2
        · cases h
      · cases h
    · cases h

section
variable {H : Type} {enc : TypeId × Value → H} {P : Program} {w : World} {base : Nat} {spare : Nat → Bool} {held : Bool}
theorem trod_leaves : ∀ (n : Nat) (t : TypeId) (ls : List Leaf) (fuel : Nat) (cs : List Value) (x : DataW H × List MemPlace), leaves P n t = some ls → DataW.trod enc P w base spare held fuel t cs = some x → LOk ls cs
  | 0, t, ls, fuel, cs, x, h, _ => by simp [leaves] at h
  | n + 1, t, ls, fuel, cs, x, h, ht => by
    rw [leaves] at h
    split at h
    · rename_i k hk
      injection h with h; subst h
      obtain ⟨m, rfl, _, hw⟩ := DataW.trod_int hk ht
      exact .one ⟨m, rfl, hw⟩
    · rename_i hk
      injection h with h; subst h
      obtain ⟨m, rfl, _⟩ := DataW.trod_bool hk ht
      exact .one ⟨m, rfl⟩
    · rename_i hk
      injection h with h; subst h
      obtain ⟨m, rfl, _, hw⟩ := DataW.trod_string hk ht
      exact .one ⟨m, rfl, hw⟩
    · rename_i e hk
      injection h with h; subst h
      rcases DataW.trod_slice hk ht with ⟨rfl, _⟩ | ⟨a, len, cap, _, _, _, _, rfl, _, _, hl, hm, _⟩
      · exact .one ⟨none, 0, 0, rfl, Nat.le_refl _, by simp [maxLen]⟩
      · exact .one ⟨_, _, _, rfl, hl, hm⟩
    · rename_i fs hk
      split at h
      · rename_i l hl
        split at h
        · rename_i hc
          injection h with h; subst h
          obtain ⟨xs, m, _, _, hlen, hxl, hf⟩ := DataW.trod_struct hk ht
          have := leavesF_ok (leaves P n) P.cellsOf cs fs.toList 0 l hl (by omega) (fun f hfm l' hl' hc' => by
            obtain ⟨i, hi, hfi⟩ := List.mem_iff_getElem.1 hfm
            have hfi' : fs[i]? = some f := by rw [← hfi]; simp at hi ⊢
            have h1 := hf i f hfi'
            have h2 : i < xs.length := by rw [hxl]; simpa using hi
            rw [List.getElem?_eq_getElem h2] at h1
            exact trod_leaves n f.type l' m _ _ hl' h1)
          simpa using this
        · cases h
      · cases h
    · cases h

/-- A slice's elements, by their cells. -/
theorem open_rows {t e : TypeId} {size n : Nat} {ls : List Leaf} (ht : P.underlying t = some (.slice e)) (hC : P.cellsOf e = size) (hL : leaves P n e = some ls) (hz : 0 < size)
    {r : Reach} {b0 : Nat} {v : Value} {d : DataW H} {p : List MemPlace} (hv : Value.okWide P w r b0 t v) (h : DataW.Trod enc P w base spare held t v d p) :
    ∃ A len cap, v = .slice A len cap ∧ len ≤ cap ∧ cap ≤ maxLen ∧ (0 < len → ∃ ad, A = some ad ∧ ad.block < w.heap.size ∧ ∀ i, i < len → ∃ cs, LOk ls cs ∧ cs.length = size ∧ ∀ j u, cs[j]? = some u → w.cell? (ad.add (i * size + j)) = some u) := by
  obtain ⟨A, len, cap, rfl⟩ := okWide_slice ht hv
  obtain ⟨fuel, hf⟩ := h
  rcases open_slice ht hf with ⟨hcs, _⟩ | ⟨a, len', cap', m, n', D, Pl, hcs, hb, hl, hm, hmm, hx, hi⟩
  · simp [Value.cells] at hcs
    obtain ⟨rfl, rfl, rfl⟩ := hcs
    exact ⟨none, 0, 0, rfl, Nat.le_refl _, by simp [maxLen], fun h => by omega⟩
  · simp [Value.cells] at hcs
    obtain ⟨rfl, rfl, rfl⟩ := hcs
    refine ⟨_, _, _, rfl, hl, hm, fun h0 => ⟨a, rfl, ?_, fun i hil => ?_⟩⟩
    · obtain ⟨cs', hc, ht'⟩ := hi 0 (by rw [hmm]; split <;> omega)
      obtain ⟨_, hcl, hat⟩ := World.cells?_some hc
      have h1 := hat 0 (by rw [hC]; exact hz)
      have h2 : 0 < cs'.length := by rw [hcl, hC]; exact hz
      rw [List.getElem?_eq_getElem h2] at h1
      rcases Nat.lt_or_ge a.block w.heap.size with h3 | h3
      · exact h3
      · simp [Addr.add, World.cell?, Array.getElem?_eq_none h3] at h1
    · obtain ⟨cs', hc, ht'⟩ := hi i (by rw [hmm]; split <;> omega)
      obtain ⟨_, hcl, hat⟩ := World.cells?_some hc
      refine ⟨cs', trod_leaves _ _ _ _ _ _ hL ht', by rw [hcl, hC], fun j u hu => ?_⟩
      have hj : j < size := by rw [← hC, ← hcl]; exact (List.getElem?_eq_some_iff.1 hu).1
      have h1 := hat j (by rw [hC]; exact hj)
      rw [← Go.Deep.add_add, ← hu, ← h1, hC]
end
theorem list_of {α : Type} {Q : Nat → α → Prop} : ∀ n, (∀ i, i < n → ∃ x, Q i x) → ∃ l : List α, l.length = n ∧ ∀ i x, l[i]? = some x → Q i x
  | 0, _ => ⟨[], rfl, fun i x h => by simp at h⟩
  | n + 1, h => by
    obtain ⟨l, hl, hq⟩ := list_of n (fun i hi => h i (by omega))
    obtain ⟨x, hx⟩ := h n (by omega)
    refine ⟨l ++ [x], by simp [hl], fun i y hy => ?_⟩
    by_cases hi : i < l.length
    · rw [List.getElem?_append_left hi] at hy; exact hq i y hy
    · rw [List.getElem?_append_right (by omega)] at hy
      have : i - l.length = 0 := by
        rcases Nat.eq_zero_or_pos (i - l.length) with h0 | h0
        · exact h0
        · rw [List.getElem?_eq_none (by simp; omega)] at hy; cases hy
      rw [this] at hy
      simp at hy
      have : i = n := by omega
      rw [this, ← hy]; exact hx
end Go.Proofs.Ytdblecmelmeibaa
