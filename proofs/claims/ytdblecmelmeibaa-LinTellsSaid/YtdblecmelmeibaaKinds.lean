/- What is told of values that came in, kind by kind, in the printed texts' own form: the cells of any type that is built of whole numbers, bools, strings, slices and structs. -/
import Derived.Test.YtdblecmelmeibaaWWords
import Derived.Deep.Slices
import Derived.Deep.Fields
import Derived.ChangeSame
import Derived.ChangeArms
import Derived.WideShapes
namespace Go.Proofs.Ytdblecmelmeibaa.Came
open Go.ChangeShapes Go.WideShapes Go.Deep Go.RowKit Go.Proofs.YtdblecmelmeibaaW.PrintWords
set_option linter.unusedVariables false

section
variable {H : Type} {enc : TypeId × Value → H} {P : Program} {w : World} {base : Nat} {spare : Nat → Bool} {held : Bool}
/-- A type's cells are of this kind, and what they hold is so. -/
def Tells {α : Type} (enc : TypeId × Value → H) (P : Program) (w : World) (base : Nat) (spare : Nat → Bool) (held : Bool) (t : TypeId) (k : Kd α) (G : α → Prop) : Prop :=
  P.cellsOf t = k.sz ∧ ∀ (fuel : Nat) (cs : List Value) (x : DataW H × List MemPlace), DataW.trod enc P w base spare held fuel t cs = some x → ∃ y, k.K w y cs ∧ G y
/-- The cells of some fields, one behind the other. -/
def Fields {α : Type} (enc : TypeId × Value → H) (P : Program) (w : World) (base : Nat) (spare : Nat → Bool) (held : Bool) (off : Nat) (fs : List Field) (k : Kd α) (G : α → Prop) : Prop :=
  ∀ (cs : List Value), cs.length = off + k.sz → (∀ f ∈ fs, ∃ n x, DataW.trod enc P w base spare held n f.type ((cs.drop f.offset).take (P.cellsOf f.type)) = some x) → ∃ y, k.K w y (cs.drop off) ∧ G y
theorem tells_int {t : TypeId} {k : IntKind} (ht : P.underlying t = some (.int k)) (hC : P.cellsOf t = 1) : Tells enc P w base spare held t (Kd.int k) (fun n => (Lit.int k n).wf = true) :=
  ⟨hC, fun fuel cs x h => by
    obtain ⟨m, rfl, _, hw⟩ := DataW.trod_int ht h
    exact ⟨m, rfl, hw⟩⟩
theorem tells_bool {t : TypeId} (ht : P.underlying t = some .bool) (hC : P.cellsOf t = 1) : Tells enc P w base spare held t Kd.bool (fun _ => True) :=
  ⟨hC, fun fuel cs x h => by
    obtain ⟨m, rfl, _⟩ := DataW.trod_bool ht h
    exact ⟨m, rfl, trivial⟩⟩
theorem tells_string {t : TypeId} (ht : P.underlying t = some .string) (hC : P.cellsOf t = 1) : Tells enc P w base spare held t Kd.string (fun s => s.size ≤ maxLen) :=
  ⟨hC, fun fuel cs x h => by
    obtain ⟨m, rfl, _, hw⟩ := DataW.trod_string ht h
    exact ⟨m, rfl, hw⟩⟩
theorem list_of {α : Type} {Q : Nat → α → Prop} : ∀ n, (∀ i, i < n → ∃ x, Q i x) → ∃ l : List α, l.length = n ∧ ∀ i x, l[i]? = some x → Q i x
  | 0, _ => ⟨[], rfl, fun i x h => by simp at h⟩
  | n + 1, h => by
    obtain ⟨l, hl, hq⟩ := list_of n (fun i hi => h i (by omega))
    obtain ⟨x, hx⟩ := h n (by omega)
    refine ⟨l ++ [x], by simp [hl], fun i y hy => ?_⟩
    by_cases hi : i < l.length
    · rw [List.getElem?_append_left hi] at hy; exact hq i y hy
    · rw [List.getElem?_append_right (by omega)] at hy
      have : i - l.length = 0 := by
        rcases Nat.eq_zero_or_pos (i - l.length) with h0 | h0
        · exact h0
        · rw [List.getElem?_eq_none (by simp; omega)] at hy; cases hy
      rw [this] at hy
      simp at hy
      have : i = n := by omega
      rw [this, ← hy]; exact hx
theorem tells_rows {α : Type} {t e : TypeId} {k : Kd α} {G : α → Prop} (ht : P.underlying t = some (.slice e)) (he : Tells enc P w base spare held e k G)
    {fuel : Nat} {cs : List Value} {x : DataW H × List MemPlace} (h : DataW.trod enc P w base spare held fuel t cs = some x) :
    ∃ A c l, cs = [.slice A l.length c] ∧ l.length ≤ c ∧ c ≤ maxLen ∧ k.C w A l.length l ∧ ∀ y ∈ l, G y := by
  rcases open_slice ht h with ⟨rfl, _⟩ | ⟨a, len, cap, m, n, D, Pl, rfl, hb, hl, hm, hmm, hx, hi⟩
  · exact ⟨none, 0, [], rfl, Nat.le_refl _, by simp [maxLen], Kd.C_nil k w, fun y hy => by simp at hy⟩
  · obtain ⟨l, hll, hq⟩ := list_of (Q := fun i (y : α) => (∃ c, c.length = k.sz ∧ k.K w y c ∧ ∀ j u, c[j]? = some u → w.cell? (a.add (i * k.sz + j)) = some u) ∧ G y) len (fun i hil => by
      obtain ⟨cs', hc, ht'⟩ := hi i (by rw [hmm]; split <;> omega)
      obtain ⟨_, hcl, hat⟩ := World.cells?_some hc
      obtain ⟨y, hk, hg⟩ := he.2 _ _ _ ht'
      refine ⟨y, ⟨cs', k.K_len hk, hk, fun j u hu => ?_⟩, hg⟩
      have hj : j < P.cellsOf e := by rw [← hcl]; exact (List.getElem?_eq_some_iff.1 hu).1
      have h1 := hat j hj
      rw [he.1] at h1
      rw [← Go.Deep.add_add, ← hu, ← h1])
    subst hll
    refine ⟨_, _, l, rfl, hl, hm, ⟨rfl, by unfold maxLen at hm; omega, fun h0 => ⟨a, rfl, fun j p hp => (hq j p hp).1⟩⟩, fun y hy => ?_⟩
    obtain ⟨i, hi, rfl⟩ := List.mem_iff_getElem.1 hy
    exact (hq i _ (List.getElem?_eq_getElem hi)).2
theorem tells_slice {α : Type} {t e : TypeId} {k : Kd α} {G : α → Prop} (ht : P.underlying t = some (.slice e)) (hC : P.cellsOf t = 1) (he : Tells enc P w base spare held e k G) :
    Tells enc P w base spare held t (Kd.slice e k) (fun l => ∀ y ∈ l, G y) :=
  ⟨hC, fun fuel cs x h => by
    obtain ⟨A, c, l, rfl, h1, _, h2, h3⟩ := tells_rows ht he h
    exact ⟨l, ⟨A, c, rfl, h1, h2⟩, h3⟩⟩
theorem fields_one {α : Type} {off : Nat} {f : Field} {k : Kd α} {G : α → Prop} (h : Tells enc P w base spare held f.type k G) (ho : f.offset = off) : Fields enc P w base spare held off [f] k G := by
  intro cs hl hf
  obtain ⟨n, x, hx⟩ := hf f (by simp)
  obtain ⟨y, hk, hg⟩ := h.2 _ _ _ hx
  rw [ho, h.1, List.take_of_length_le (by rw [List.length_drop]; omega)] at hk
  exact ⟨y, hk, hg⟩
theorem fields_cons {α β : Type} {off : Nat} {f : Field} {fs : List Field} {k1 : Kd α} {k2 : Kd β} {G1 : α → Prop} {G2 : β → Prop} (h : Tells enc P w base spare held f.type k1 G1) (ho : f.offset = off)
    (hr : Fields enc P w base spare held (off + k1.sz) fs k2 G2) : Fields enc P w base spare held off (f :: fs) (Kd.pair k1 k2) (fun y => G1 y.1 ∧ G2 y.2) := by
  intro cs hl hf
  obtain ⟨n, x, hx⟩ := hf f (by simp)
  obtain ⟨y, hk, hg⟩ := h.2 _ _ _ hx
  have e2 : (Kd.pair k1 k2).sz = k1.sz + k2.sz := rfl
  rw [e2] at hl
  obtain ⟨z, hk2, hg2⟩ := hr cs (by omega) (fun g hg => hf g (by simp [hg]))
  rw [ho, h.1] at hk
  refine ⟨(y, z), ⟨_, _, ?_, hk, hk2⟩, hg, hg2⟩
  rw [← List.drop_drop, List.take_append_drop]
theorem tells_struct {α : Type} {t : TypeId} {fs : Array Field} {k : Kd α} {G : α → Prop} (ht : P.underlying t = some (.struct fs)) (hC : P.cellsOf t = k.sz) (hf : Fields enc P w base spare held 0 fs.toList k G) :
    Tells enc P w base spare held t k G :=
  ⟨hC, fun fuel cs x h => by
    obtain ⟨xs, m, _, _, hlen, hxl, hx⟩ := DataW.trod_struct ht h
    obtain ⟨y, hk, hg⟩ := hf cs (by rw [hlen, hC]; omega) (fun f hfm => by
      obtain ⟨i, hi, hfi⟩ := List.mem_iff_getElem.1 hfm
      have hfi' : fs[i]? = some f := by rw [← hfi]; simp at hi ⊢
      have h1 := hx i f hfi'
      have h2 : i < xs.length := by rw [hxl]; simpa using hi
      rw [List.getElem?_eq_getElem h2] at h1
      exact ⟨m, _, h1⟩)
    exact ⟨y, by simpa using hk, hg⟩⟩
theorem tells_iso {α β : Type} {t : TypeId} {k : Kd α} {G : α → Prop} (f : β → α) (g : α → β) (hfg : ∀ y, f (g y) = y) (h : Tells enc P w base spare held t k G) : Tells enc P w base spare held t (Kd.iso k f) (fun y => G (f y)) :=
  ⟨h.1, fun fuel cs x hx => by
    obtain ⟨y, hk, hg⟩ := h.2 _ _ _ hx
    refine ⟨g y, ?_, ?_⟩
    · show k.K w (f (g y)) cs
      rw [hfg]; exact hk
    · show G (f (g y))
      rw [hfg]; exact hg⟩
theorem came_rows {α : Type} {t e : TypeId} {k : Kd α} {G : α → Prop} (ht : P.underlying t = some (.slice e)) (he : Tells enc P w base spare held e k G)
    {r : Reach} {b0 : Nat} {v : Value} {d : DataW H} {p : List MemPlace} (hv : Value.okWide P w r b0 t v) (h : DataW.Trod enc P w base spare held t v d p) :
    ∃ A c l, v = .slice A l.length c ∧ l.length ≤ c ∧ c ≤ maxLen ∧ k.C w A l.length l ∧ ∀ y ∈ l, G y := by
  obtain ⟨A, len, cap, rfl⟩ := okWide_slice ht hv
  obtain ⟨fuel, hf⟩ := h
  obtain ⟨A', c, l, hcs, h1, h2, h3, h4⟩ := tells_rows ht he hf
  simp [Value.cells] at hcs
  obtain ⟨rfl, rfl, rfl⟩ := hcs
  exact ⟨_, _, l, rfl, h1, h2, h3, h4⟩
theorem came_struct {α : Type} {t : TypeId} {fs : Array Field} {k : Kd α} {G : α → Prop} (ht : P.underlying t = some (.struct fs)) (he : Tells enc P w base spare held t k G)
    {r : Reach} {b0 : Nat} {v : Value} {d : DataW H} {p : List MemPlace} (hv : Value.okWide P w r b0 t v) (h : DataW.Trod enc P w base spare held t v d p) :
    ∃ cs y, v = .agg cs ∧ k.K w y cs.toList ∧ G y := by
  obtain ⟨cs, rfl, hsz⟩ := okWide_struct ht hv
  obtain ⟨fuel, hf⟩ := h
  obtain ⟨y, hk, hg⟩ := he.2 _ _ _ hf
  exact ⟨cs, y, rfl, hk, hg⟩
end
end Go.Proofs.Ytdblecmelmeibaa.Came
