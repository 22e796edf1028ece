/- Rows of acts that are written, and copied. -/
import Derived.Test.YtdblecmelmeibaaNone
namespace Go.Proofs.Ytdblecmelmeibaa
open Go.RowKit Go.Maps Go.ChangeMaps
set_option linter.unusedSimpArgs false

abbrev aRow (x : PA) : List Value := [.int .i64 x.fr, .int .i64 x.to, .int .i64 x.kind, .string x.val, .bool x.found, .bool x.sure]
theorem aCs_cons (x : PA) (l : List PA) : aCs (x :: l) = aRow x ++ aCs l := by simp [aCs]
theorem aCs_set {x y : PA} {j : Nat} {u : Value} (hj : j < 6) (h : aRow y = (aRow x).set j u) : ∀ (acts : List PA) (k : Nat), acts[k]? = some x → (aCs acts).set (k * 6 + j) u = aCs (acts.set k y)
  | [], k, hk => by simp at hk
  | z :: l, 0, hk => by
    simp at hk
    subst hk
    rw [aCs_cons, List.set_cons_zero, aCs_cons, h, List.set_append_left _ _ (by simp; omega)]
    simp
  | z :: l, k + 1, hk => by
    have ih := aCs_set hj h l k (by simpa using hk)
    rw [aCs_cons, List.set_cons_succ, aCs_cons, ← ih, List.set_append_right _ _ (by simp; omega)]
    congr 2
    simp
    omega
theorem ra_reads {w : World} {A : Option Addr} {n : Nat} {acts : List PA} (h : RA w A n acts) : Reads w w.heap.size 6 A n (aCs acts) := by
  refine ⟨by rw [aCs_len, h.1], fun h0 => ?_⟩
  obtain ⟨ad, e, hb, hc⟩ := h.2 h0
  refine ⟨ad, e, hb, fun j u hu => ?_⟩
  have hj : j < acts.length * 6 := by
    have := (List.getElem?_eq_some_iff.1 hu).1
    rwa [aCs_len] at this
  have hi : j / 6 < acts.length := by omega
  have hx : acts[j / 6]? = some acts[j / 6] := List.getElem?_eq_getElem hi
  have hat := hc _ _ hx
  have h2 := aCs_at acts (j / 6) (j % 6) _ hx (by omega)
  rw [show j / 6 * 6 + j % 6 = j from by omega, hu] at h2
  obtain ⟨h0, h1, h2', h3, h4, h5⟩ := hat
  have hm : j % 6 < 6 := by omega
  rw [show j = j / 6 * 6 + j % 6 from by omega, ← add_of_add]
  generalize j % 6 = r at *
  match r, hm, h2 with
  | 0, _, h2 => simp at h2; rw [h2, zero_of]; exact h0
  | 1, _, h2 => simp at h2; rw [h2, field_of _ 1 (by omega)]; exact h1
  | 2, _, h2 => simp at h2; rw [h2, field_of _ 2 (by omega)]; exact h2'
  | 3, _, h2 => simp at h2; rw [h2, field_of _ 3 (by omega)]; exact h3
  | 4, _, h2 => simp at h2; rw [h2, field_of _ 4 (by omega)]; exact h4
  | 5, _, h2 => simp at h2; rw [h2, field_of _ 5 (by omega)]; exact h5
theorem owns_empty (w : World) (e : TypeId) (size : Nat) (g : Nat) (hg : w.heap.size = g) : (w.alloc (.cells #[] e)).ownsRow g e size (.slice (some ⟨g, 0, none⟩) 0 0) 0 [] := by
  subst hg
  refine ⟨by simp, .inr ⟨w.heap.size, 0, #[], rfl, Nat.le_refl _, heap_alloc_new _ _, Nat.le_refl _, by simp [maxLen], by simp, by simp⟩⟩
theorem own_full {w : World} {base : Nat} {v : Value} {n : Nat} {l : List PA} (h : w.ownsRow base 37 6 v n (aCs l)) : l.length = n := by
  have h1 := h.1
  rw [aCs_len] at h1
  omega
/-- What a store does to a row of acts. -/
theorem own_store {w : World} {base g cap n k j : Nat} {x y : PA} {u : Value} {l : List PA} (h : w.ownsRow base 37 6 (.slice (some ⟨g, 0, none⟩) n cap) n (aCs l)) (hx : l[k]? = some x) (hj : j < 6) (hy : aRow y = (aRow x).set j u) :
    (w.setCell ⟨g, k * 6 + j, none⟩ u).ownsRow base 37 6 (.slice (some ⟨g, 0, none⟩) n cap) n (aCs (l.set k y)) := by
  rw [← aCs_set hj hy l k hx]
  exact (h.stored _ u).1
theorem own_ra {w : World} {base g cap n : Nat} {l : List PA} (h : w.ownsRow base 37 6 (.slice (some ⟨g, 0, none⟩) n cap) n (aCs l)) : RA w (some ⟨g, 0, none⟩) n l := by
  have e := own_full h
  subst e
  obtain ⟨A, c, he, _, hr⟩ := own_acts h
  injection he with h1
  rw [← h1] at hr
  exact hr
end Go.Proofs.Ytdblecmelmeibaa
