/- The contracts of the functions that the printed texts lean on: lin's Check and the calls at the head of all statements, in the printed texts' own form. -/
import Derived.Test.YtdblecmelmeibaaPLx0
import Derived.Test.YtdblecmelmeibaaNone
import Derived.Test.YtdblecmelmeibaaSets
import Derived.Test.YtdblecmelmeibaaOpens
import Derived.Test.YtdblecmelmeibaaRefActs
namespace Go.Proofs.Ytdblecmelmeibaa.PL
open Go.RowKit Go.Proofs.YtdblecmelmeibaaW.PrintWords Go.Proofs.YtdblecmelmeibaaW.PrintLast Go.Proofs.YtdblecmelmeibaaW.PrintMore
set_option linter.unusedVariables false
set_option linter.unusedSimpArgs false
noncomputable section

/-- An act of the printed texts, and ours. -/
def toA (x : S37) : PA := ⟨x.f0, x.f1, x.f2, x.f3, x.f4, x.f5⟩
def ofA (x : PA) : S37 := ⟨x.fr, x.to, x.kind, x.val, x.found, x.sure⟩
theorem to_of (l : List PA) : (l.map ofA).map toA = l := by
  rw [List.map_map]
  exact (List.map_congr_left (fun x _ => rfl)).trans (List.map_id l)
theorem cell_lt {w : World} {p : Addr} {u : Value} (h : w.cell? p = some u) : p.block < w.heap.size := by
  rcases Nat.lt_or_ge p.block w.heap.size with h1 | h1
  · exact h1
  · simp [World.cell?, Array.getElem?_eq_none h1] at h
theorem ra_of_C {w : World} {A : Option Addr} {l : List S37} (h : Kd.C k37 w A l.length l) : RA w A l.length (l.map toA) := by
  refine ⟨by simp, fun h0 => ?_⟩
  obtain ⟨ad, e, hc⟩ := h.2.2 h0
  have hcell : ∀ (i : Nat) (x : S37), l[i]? = some x → At w (ad.add (i * 6)) (toA x) := by
    intro i x hx
    obtain ⟨c, _, hk, hcc⟩ := hc i x hx
    have hcc : ∀ j u, c[j]? = some u → w.cell? (ad.add (i * 6 + j)) = some u := hcc
    obtain rfl := k37_open hk
    refine ⟨?_, ?_, ?_, ?_, ?_, ?_⟩
    · have := hcc 0 _ rfl; rwa [Nat.add_zero] at this
    · have := hcc 1 _ rfl; rwa [← add_of_add, field_of _ 1 (by omega)] at this
    · have := hcc 2 _ rfl; rwa [← add_of_add, field_of _ 2 (by omega)] at this
    · have := hcc 3 _ rfl; rwa [← add_of_add, field_of _ 3 (by omega)] at this
    · have := hcc 4 _ rfl; rwa [← add_of_add, field_of _ 4 (by omega)] at this
    · have := hcc 5 _ rfl; rwa [← add_of_add, field_of _ 5 (by omega)] at this
  refine ⟨ad, e, ?_, fun i y hy => ?_⟩
  · have := hcell 0 _ (List.getElem?_eq_getElem h0)
    have := cell_lt this.1
    rwa [block_of_add] at this
  · rw [List.getElem?_map, Option.map_eq_some_iff] at hy
    obtain ⟨x, hx, rfl⟩ := hy
    exact hcell i x hx
theorem C_of_ra {w : World} {A : Option Addr} {n : Nat} {l : List PA} (h : RA w A n l) (hn : n ≤ 9223372036854775807) : Kd.C k37 w A (l.map ofA).length (l.map ofA) := by
  refine ⟨rfl, by rw [List.length_map, h.1]; exact hn, fun h0 => ?_⟩
  rw [List.length_map, h.1] at h0
  obtain ⟨ad, e, _, hc⟩ := h.2 h0
  refine ⟨ad, e, fun i y hy => ?_⟩
  rw [List.getElem?_map, Option.map_eq_some_iff] at hy
  obtain ⟨x, hx, rfl⟩ := hy
  obtain ⟨h0, h1, h2, h3, h4, h5⟩ := hc i x hx
  refine ⟨_, rfl, k37_mk w (ofA x), fun j u hu => ?_⟩
  show w.cell? (ad.add (i * 6 + j)) = some u
  rw [← add_of_add]
  match j, hu with
  | 0, hu => simp at hu; rw [← hu, zero_of]; exact h0
  | 1, hu => simp at hu; rw [← hu, field_of _ 1 (by omega)]; exact h1
  | 2, hu => simp at hu; rw [← hu, field_of _ 2 (by omega)]; exact h2
  | 3, hu => simp at hu; rw [← hu, field_of _ 3 (by omega)]; exact h3
  | 4, hu => simp at hu; rw [← hu, field_of _ 4 (by omega)]; exact h4
  | 5, hu => simp at hu; rw [← hu, field_of _ 5 (by omega)]; exact h5
  | j + 6, hu => simp at hu

open Classical in
/-- lin's Check. -/
def lin_Check.f (a0 : ByteArray) (a1 : Bool) (l2 : List S37) (a3 : ByteArray) (a4 : Bool) : Option Bool :=
  if a0.size ≤ 1000 ∧ ∀ x ∈ l2, x.f3.size ≤ 1000 then some (decide (Can a0 a1 (l2.map toA) a3 a4)) else none
theorem lin_Check.calls (a0 : ByteArray) (a1 : Bool) (A2 : Option Addr) (c2 : Nat) (l2 : List S37) (a3 : ByteArray) (a4 : Bool) (r : Bool) (w : World) (hr2 : Kd.C k37 w A2 l2.length l2) (hc2 : l2.length ≤ c2) (h : lin_Check.f a0 a1 l2 a3 a4 = some r) :
    Calls Try.prog 11 #[.string a0, .bool a1, .slice A2 l2.length c2, .string a3, .bool a4] w fun e w' => e = .returned (.bool r) ∧ Below w.heap.size w w' := by
  unfold lin_Check.f at h
  split at h
  · rename_i hs
    injection h with h
    refine check_is a0 a1 A2 l2.length c2 (l2.map toA) a3 a4 w r (ra_of_C hr2) hr2.2.1 hs.1 ?_ ?_
    · intro x hx
      obtain ⟨y, hy, rfl⟩ := List.mem_map.1 hx
      exact hs.2 y hy
    · rw [← h]; simp
  · cases h
/-- The calls at the head of all statements. -/
def lamplighterlaw22_awake.f : Option Bool := some true
theorem lamplighterlaw22_awake.calls (r : Bool) (w : World) (h : lamplighterlaw22_awake.f = some r) : Calls Try.prog 8 #[] w fun e w' => e = .returned (.bool r) ∧ Below w.heap.size w w' := by
  injection h with h
  subst h
  exact awake_any w
/-! Events. -/
def toE (x : S48) : PE := ⟨x.f0, x.f1, x.f2.f0, x.f2.f1, x.f2.f2, x.f2.f3, x.f2.f4, x.f3, x.f4, x.f5, none, 0, 0⟩
def noOut (e : PE) : PE := ⟨e.client, e.kind, e.okind, e.okey, e.oval, e.ohi, e.olim, e.val, e.found, e.err, none, 0, 0⟩
theorem find_no (cl : Int) : ∀ evs : List PE, (evs.map noOut).findIdx (backs cl) = evs.findIdx (backs cl)
  | [] => rfl
  | e :: l => by
    rw [List.map_cons, List.findIdx_cons, List.findIdx_cons, find_no cl l]
    rfl
theorem actOf_no (evs : List PE) (key : ByteArray) (i : Nat) (e : PE) : actOf (evs.map noOut) key i (noOut e) = actOf evs key i e := by
  unfold actOf
  have e1 : asks key (noOut e) = asks key e := rfl
  have e2 : (noOut e).client = e.client := rfl
  rw [e1, e2, ← List.map_drop, find_no, List.getElem?_map, List.length_map]
  cases (evs.drop (i + 1))[(evs.drop (i + 1)).findIdx (backs e.client)]? <;> rfl
theorem acts_no (evs : List PE) (key : ByteArray) : ∀ n, actsTo (evs.map noOut) key n = actsTo evs key n
  | 0 => rfl
  | n + 1 => by
    rw [actsTo, actsTo, acts_no evs key n, List.getElem?_map]
    cases evs[n]? with
    | none => rfl
    | some e => simp only [Option.map_some, actOf_no]
theorem re_of_C {w : World} {A : Option Addr} {l : List S48} (h : Kd.C k48 w A l.length l) : ∃ evs, RE w A l.length evs ∧ evs.map noOut = l.map toE := by
  obtain ⟨_, _, h⟩ := h
  by_cases h0 : 0 < l.length
  · obtain ⟨ad, e, hc⟩ := h h0
    have hone : ∀ i, i < l.length → ∃ x : PE, EAt w (ad.add (i * 11)) x ∧ ∀ y, l[i]? = some y → noOut x = toE y := by
      intro i hi
      obtain ⟨c, _, hk, hcc⟩ := hc i _ (List.getElem?_eq_getElem hi)
      have hcc : ∀ j u, c[j]? = some u → w.cell? (ad.add (i * 11 + j)) = some u := hcc
      obtain ⟨A10, c10, rfl, _, _⟩ := k48_open hk
      refine ⟨⟨l[i].f0, l[i].f1, l[i].f2.f0, l[i].f2.f1, l[i].f2.f2, l[i].f2.f3, l[i].f2.f4, l[i].f3, l[i].f4, l[i].f5, A10, l[i].f6.length, c10⟩, ⟨?_, ?_, ?_, ?_, ?_, ?_, ?_, ?_, ?_, ?_, ?_⟩, ?_⟩
      · have := hcc 0 _ rfl; rwa [Nat.add_zero] at this
      · have := hcc 1 _ rfl; rwa [← add_of_add, field_of _ 1 (by omega)] at this
      · have := hcc 2 _ rfl; rwa [← add_of_add, field_of _ 2 (by omega)] at this
      · have := hcc 3 _ rfl; rwa [← add_of_add, field_of _ 3 (by omega)] at this
      · have := hcc 4 _ rfl; rwa [← add_of_add, field_of _ 4 (by omega)] at this
      · have := hcc 5 _ rfl; rwa [← add_of_add, field_of _ 5 (by omega)] at this
      · have := hcc 6 _ rfl; rwa [← add_of_add, field_of _ 6 (by omega)] at this
      · have := hcc 7 _ rfl; rwa [← add_of_add, field_of _ 7 (by omega)] at this
      · have := hcc 8 _ rfl; rwa [← add_of_add, field_of _ 8 (by omega)] at this
      · have := hcc 9 _ rfl; rwa [← add_of_add, field_of _ 9 (by omega)] at this
      · have := hcc 10 _ rfl; rwa [← add_of_add, field_of _ 10 (by omega)] at this
      · intro y hy
        rw [List.getElem?_eq_getElem hi] at hy
        injection hy with hy
        rw [← hy]; rfl
    obtain ⟨evs, hl, hq⟩ := list_of (Q := fun i (x : PE) => EAt w (ad.add (i * 11)) x ∧ ∀ y, l[i]? = some y → noOut x = toE y) l.length hone
    refine ⟨evs, ⟨hl, fun _ => ⟨ad, e, ?_, fun i x hx => (hq i x hx).1⟩⟩, ?_⟩
    · have h1 : evs[0]? = some (evs[0]'(by omega)) := List.getElem?_eq_getElem _
      have := cell_lt (hq 0 _ h1).1.1
      rwa [block_of_add] at this
    · refine List.ext_getElem? fun i => ?_
      rw [List.getElem?_map, List.getElem?_map]
      by_cases hi : i < l.length
      · have h1 : evs[i]? = some (evs[i]'(by omega)) := List.getElem?_eq_getElem _
        rw [h1, List.getElem?_eq_getElem hi]
        simp only [Option.map_some]
        rw [(hq i _ h1).2 _ (List.getElem?_eq_getElem hi)]
      · rw [List.getElem?_eq_none (by omega), List.getElem?_eq_none (by omega)]; rfl
  · have : l = [] := List.eq_nil_of_length_eq_zero (by omega)
    subst this
    exact ⟨[], ⟨rfl, fun h => absurd h (by simp)⟩, rfl⟩

theorem row_at : ∀ (l : List PA) (j : Nat) (x : PA), l[j]? = some x → ((aCs l).drop (j * 6)).take 6 = aRow x
  | [], j, x, h => by simp at h
  | y :: l, 0, x, h => by
    simp at h
    subst h
    rw [aCs_cons]
    simp
  | y :: l, j + 1, x, h => by
    have ih := row_at l j x (by simpa using h)
    rw [aCs_cons, ← ih, show (j + 1) * 6 = (aRow y).length + j * 6 from by simp; omega, ← List.drop_drop, List.drop_left]
theorem R_of_own {w : World} {base : Nat} {v : Value} {l : List PA} (h : w.ownsRow base 37 6 v l.length (aCs l)) : Kd.R k37 37 w base (fun _ => True) v (l.map ofA) := by
  refine ⟨fun _ _ => trivial, aCs l, by rw [List.length_map]; exact h, by rw [List.length_map]; exact aCs_len l, fun j p hp => ?_⟩
  rw [List.getElem?_map, Option.map_eq_some_iff] at hp
  obtain ⟨x, hx, rfl⟩ := hp
  have e : ((aCs l).drop (j * k37.sz)).take k37.sz = aRow x := row_at l j x hx
  rw [e]
  exact k37_mkM w base _ (ofA x)
/-- lin's Acts. -/
def lin_Acts.f (l0 : List S48) (a1 : ByteArray) : Option (List S37) :=
  if l0.length ≤ 1000000000 then some ((actsTo (l0.map toE) a1 l0.length).map ofA) else none
theorem lin_Acts.calls (A0 : Option Addr) (c0 : Nat) (l0 : List S48) (a1 : ByteArray) (r : List S37) (w : World) (hr0 : Kd.C k48 w A0 l0.length l0) (hc0 : l0.length ≤ c0) (h : lin_Acts.f l0 a1 = some r) :
    Calls Try.prog 14 #[.slice A0 l0.length c0, .string a1] w fun e w' => ∃ v0_ : Value, e = .returned (v0_) ∧ Kd.R k37 37 w' w.heap.size (fun _ => True) v0_ r ∧ Below w.heap.size w w' := by
  unfold lin_Acts.f at h
  split at h
  · injection h with h
    obtain ⟨evs, hre, he⟩ := re_of_C hr0
    rw [← he, acts_no] at h
    refine (acts_own A0 l0.length c0 evs a1 w hre ‹_› hc0).mono fun e w' ⟨v, h1, h2, h3⟩ => ⟨v, h1, ?_, h3⟩
    rw [← h]
    exact R_of_own h2
  · cases h
/-- The reference's Acts. -/
def lamplighterref22_Acts.f (l0 : List S48) (a1 : ByteArray) : Option (List S37) :=
  if l0.length ≤ 1000000000 then some ((actsTo (l0.map toE) a1 l0.length).map ofA) else none
theorem lamplighterref22_Acts.calls (A0 : Option Addr) (c0 : Nat) (l0 : List S48) (a1 : ByteArray) (r : List S37) (w : World) (hr0 : Kd.C k48 w A0 l0.length l0) (hc0 : l0.length ≤ c0) (h : lamplighterref22_Acts.f l0 a1 = some r) :
    Calls Try.prog 15 #[.slice A0 l0.length c0, .string a1] w fun e w' => ∃ v0_ : Value, e = .returned (v0_) ∧ Kd.R k37 37 w' w.heap.size (fun _ => True) v0_ r ∧ Below w.heap.size w w' := by
  unfold lamplighterref22_Acts.f at h
  split at h
  · injection h with h
    obtain ⟨evs, hre, he⟩ := re_of_C hr0
    rw [← he, acts_no] at h
    refine (refActs_own A0 l0.length c0 evs a1 w hre ‹_› hc0).mono fun e w' ⟨v, h1, h2, h3⟩ => ⟨v, h1, ?_, h3⟩
    rw [← h]
    exact R_of_own h2
  · cases h
end
end Go.Proofs.Ytdblecmelmeibaa.PL
