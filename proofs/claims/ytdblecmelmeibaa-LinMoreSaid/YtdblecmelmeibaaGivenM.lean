/- The contracts of the functions that the printed texts lean on: lin's Check and the calls at the head of all statements, in the printed texts' own form. -/
import Derived.Test.YtdblecmelmeibaaPMx0
import Derived.Test.YtdblecmelmeibaaNone
namespace Go.Proofs.Ytdblecmelmeibaa.PM
open Go.RowKit Go.Proofs.YtdblecmelmeibaaW.PrintWords Go.Proofs.YtdblecmelmeibaaW.PrintLast Go.Proofs.YtdblecmelmeibaaW.PrintMore
set_option linter.unusedVariables false
set_option linter.unusedSimpArgs false
noncomputable section

/-- An act of the printed texts, and ours. -/
def toA (x : S37) : PA := ⟨x.f0, x.f1, x.f2, x.f3, x.f4, x.f5⟩
def ofA (x : PA) : S37 := ⟨x.fr, x.to, x.kind, x.val, x.found, x.sure⟩
theorem to_of (l : List PA) : (l.map ofA).map toA = l := by
  rw [List.map_map]
  exact (List.map_congr_left (fun x _ => rfl)).trans (List.map_id l)
theorem cell_lt {w : World} {p : Addr} {u : Value} (h : w.cell? p = some u) : p.block < w.heap.size := by
  rcases Nat.lt_or_ge p.block w.heap.size with h1 | h1
  · exact h1
  · simp [World.cell?, Array.getElem?_eq_none h1] at h
theorem ra_of_C {w : World} {A : Option Addr} {l : List S37} (h : Kd.C k37 w A l.length l) : RA w A l.length (l.map toA) := by
  refine ⟨by simp, fun h0 => ?_⟩
  obtain ⟨ad, e, hc⟩ := h.2.2 h0
  have hcell : ∀ (i : Nat) (x : S37), l[i]? = some x → At w (ad.add (i * 6)) (toA x) := by
    intro i x hx
    obtain ⟨c, _, hk, hcc⟩ := hc i x hx
    have hcc : ∀ j u, c[j]? = some u → w.cell? (ad.add (i * 6 + j)) = some u := hcc
    obtain rfl := k37_open hk
    refine ⟨?_, ?_, ?_, ?_, ?_, ?_⟩
    · have := hcc 0 _ rfl; rwa [Nat.add_zero] at this
    · have := hcc 1 _ rfl; rwa [← add_of_add, field_of _ 1 (by omega)] at this
    · have := hcc 2 _ rfl; rwa [← add_of_add, field_of _ 2 (by omega)] at this
    · have := hcc 3 _ rfl; rwa [← add_of_add, field_of _ 3 (by omega)] at this
    · have := hcc 4 _ rfl; rwa [← add_of_add, field_of _ 4 (by omega)] at this
    · have := hcc 5 _ rfl; rwa [← add_of_add, field_of _ 5 (by omega)] at this
  refine ⟨ad, e, ?_, fun i y hy => ?_⟩
  · have := hcell 0 _ (List.getElem?_eq_getElem h0)
    have := cell_lt this.1
    rwa [block_of_add] at this
  · rw [List.getElem?_map, Option.map_eq_some_iff] at hy
    obtain ⟨x, hx, rfl⟩ := hy
    exact hcell i x hx
theorem C_of_ra {w : World} {A : Option Addr} {n : Nat} {l : List PA} (h : RA w A n l) (hn : n ≤ 9223372036854775807) : Kd.C k37 w A (l.map ofA).length (l.map ofA) := by
  refine ⟨rfl, by rw [List.length_map, h.1]; exact hn, fun h0 => ?_⟩
  rw [List.length_map, h.1] at h0
  obtain ⟨ad, e, _, hc⟩ := h.2 h0
  refine ⟨ad, e, fun i y hy => ?_⟩
  rw [List.getElem?_map, Option.map_eq_some_iff] at hy
  obtain ⟨x, hx, rfl⟩ := hy
  obtain ⟨h0, h1, h2, h3, h4, h5⟩ := hc i x hx
  refine ⟨_, rfl, k37_mk w (ofA x), fun j u hu => ?_⟩
  show w.cell? (ad.add (i * 6 + j)) = some u
  rw [← add_of_add]
  match j, hu with
  | 0, hu => simp at hu; rw [← hu, zero_of]; exact h0
  | 1, hu => simp at hu; rw [← hu, field_of _ 1 (by omega)]; exact h1
  | 2, hu => simp at hu; rw [← hu, field_of _ 2 (by omega)]; exact h2
  | 3, hu => simp at hu; rw [← hu, field_of _ 3 (by omega)]; exact h3
  | 4, hu => simp at hu; rw [← hu, field_of _ 4 (by omega)]; exact h4
  | 5, hu => simp at hu; rw [← hu, field_of _ 5 (by omega)]; exact h5
  | j + 6, hu => simp at hu

open Classical in
/-- lin's Check. -/
def lin_Check.f (a0 : ByteArray) (a1 : Bool) (l2 : List S37) (a3 : ByteArray) (a4 : Bool) : Option Bool :=
  if a0.size ≤ 1000 ∧ ∀ x ∈ l2, x.f3.size ≤ 1000 then some (decide (Can a0 a1 (l2.map toA) a3 a4)) else none
theorem lin_Check.calls (a0 : ByteArray) (a1 : Bool) (A2 : Option Addr) (c2 : Nat) (l2 : List S37) (a3 : ByteArray) (a4 : Bool) (r : Bool) (w : World) (hr2 : Kd.C k37 w A2 l2.length l2) (hc2 : l2.length ≤ c2) (h : lin_Check.f a0 a1 l2 a3 a4 = some r) :
    Calls Try.prog 11 #[.string a0, .bool a1, .slice A2 l2.length c2, .string a3, .bool a4] w fun e w' => e = .returned (.bool r) ∧ Below w.heap.size w w' := by
  unfold lin_Check.f at h
  split at h
  · rename_i hs
    injection h with h
    refine check_is a0 a1 A2 l2.length c2 (l2.map toA) a3 a4 w r (ra_of_C hr2) hr2.2.1 hs.1 ?_ ?_
    · intro x hx
      obtain ⟨y, hy, rfl⟩ := List.mem_map.1 hx
      exact hs.2 y hy
    · rw [← h]; simp
  · cases h
/-- The calls at the head of all statements. -/
def lamplighterlaw22_awake.f : Option Bool := some true
theorem lamplighterlaw22_awake.calls (r : Bool) (w : World) (h : lamplighterlaw22_awake.f = some r) : Calls Try.prog 8 #[] w fun e w' => e = .returned (.bool r) ∧ Below w.heap.size w w' := by
  injection h with h
  subst h
  exact awake_any w
end
end Go.Proofs.Ytdblecmelmeibaa.PM
