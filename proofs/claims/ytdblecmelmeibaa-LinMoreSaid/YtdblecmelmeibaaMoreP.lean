/- The plain side of the statement LinMore: acts that may have been done may have been, too, if one of them takes longer, or is no longer sure, and one that is not sure may be left out. -/
import Derived.Test.YtdblecmelmeibaaPMx2
namespace Go.Proofs.Ytdblecmelmeibaa.PM
open Go.RowKit Go.Proofs.YtdblecmelmeibaaW.PrintWords Go.Proofs.YtdblecmelmeibaaW.PrintLast Go.Proofs.YtdblecmelmeibaaW.PrintMore
set_option linter.unusedVariables false
set_option linter.unusedSimpArgs false

theorem w64 {i : Int} (h0 : -9223372036854775808 ≤ i) (h1 : i ≤ 9223372036854775807) : wrap64 i = i := by unfold wrap64; omega
theorem rd37 {l : List S37} {i : Nat} (h : i < l.length) : rd_T37 l (i : Int) = l[i] := by
  unfold rd_T37
  rw [List.getD_eq_getElem?_getD, Int.toNat_natCast, List.getElem?_eq_getElem h]; rfl
def shortD (l : List S37) (i : Nat) (m : Int) : Bool := (l.drop i).all (fun x => decide (x.f3.size ≤ 100)) && decide ((l.length : Int) ≤ m)
theorem short_loop (l : List S37) (m : Int) (hl : l.length ≤ 9223372036854775807) : ∀ (d i k : Nat), i + d = l.length → d < k → lamplighterref22_Short.l0 k l m (i : Int) = some (shortD l i m) := by
  intro d
  induction d with
  | zero =>
    intro i k hi hk
    obtain ⟨k, rfl⟩ : ∃ m, k = m + 1 := ⟨k - 1, by omega⟩
    obtain rfl : i = l.length := by omega
    simp only [lamplighterref22_Short.l0]
    rw [if_neg (by omega)]
    unfold shortD
    rw [List.drop_length]
    simp
  | succ d ih =>
    intro i k hi hk
    obtain ⟨k, rfl⟩ : ∃ m, k = m + 1 := ⟨k - 1, by omega⟩
    have hil : i < l.length := by omega
    have hw : wrap64 ((i : Int) + 1) = ((i + 1 : Nat) : Int) := by rw [w64 (by omega) (by omega)]; simp
    have hs : shortD l i m = (decide (l[i].f3.size ≤ 100) && shortD l (i + 1) m) := by
      unfold shortD
      rw [List.drop_eq_getElem_cons hil, List.all_cons, Bool.and_assoc]
    simp only [lamplighterref22_Short.l0]
    rw [if_pos (by omega), if_pos (by omega), rd37 hil]
    by_cases h : (l[i].f3.size : Int) > 100
    · rw [if_pos h, hs]
      have : decide (l[i].f3.size ≤ 100) = false := by simp; omega
      rw [this]; rfl
    · rw [if_neg h, hw, ih (i + 1) k (by omega) (by omega), hs]
      have : decide (l[i].f3.size ≤ 100) = true := by simp; omega
      rw [this]; rfl

theorem check_true {v : ByteArray} {b : Bool} {l : List S37} {e : ByteArray} {le : Bool} (hv : v.size ≤ 1000) (hl : ∀ x ∈ l, x.f3.size ≤ 1000) (hc : Can v b (l.map toA) e le) : lin_Check.f v b l e le = some true := by
  unfold lin_Check.f
  rw [if_pos ⟨hv, hl⟩]
  simp [hc]
theorem check_false {v : ByteArray} {b : Bool} {l : List S37} {e : ByteArray} {le : Bool} (hv : v.size ≤ 1000) (hl : ∀ x ∈ l, x.f3.size ≤ 1000) (hc : ¬ Can v b (l.map toA) e le) : lin_Check.f v b l e le = some false := by
  unfold lin_Check.f
  rw [if_pos ⟨hv, hl⟩]
  simp [hc]

theorem more_up (k : Nat) (v : ByteArray) (b : Bool) (l : List S37) (e : ByteArray) (le : Bool) (a g : Int) : lamplighterlaw22_LinMore.j0 (k + 1) v b l e le a g true true = some true := by
  simp only [lamplighterlaw22_LinMore.j0, if_true]
theorem more_up1 (k : Nat) (v : ByteArray) (b : Bool) (l : List S37) (e : ByteArray) (le : Bool) (g i p q r : Int) (s : ByteArray) (t u : Bool) : lamplighterlaw22_LinMore.j1 (k + 1) v b l e le g true i true p q r s t u = some true := by
  simp only [lamplighterlaw22_LinMore.j1, if_true]

theorem set_map {l : List S37} {j : Nat} (y : S37) : (l.set j y).map toA = (l.map toA).set j (toA y) := by
  rw [List.map_set]

theorem toA_long (x : S37) (d q : Int) : toA ⟨x.f0 - d, x.f1 + q, x.f2, x.f3, x.f4, x.f5⟩ = ⟨(toA x).fr - d, (toA x).to + q, (toA x).kind, (toA x).val, (toA x).found, (toA x).sure⟩ := rfl
theorem toA_un (x : S37) : toA ⟨x.f0, x.f1, x.f2, x.f3, x.f4, false⟩ = ⟨(toA x).fr, (toA x).to, (toA x).kind, (toA x).val, (toA x).found, false⟩ := rfl
theorem set_sizes {l : List S37} {j : Nat} {y : S37} (h : ∀ x ∈ l, x.f3.size ≤ 1000) (hy : y.f3.size ≤ 1000) : ∀ x ∈ l.set j y, x.f3.size ≤ 1000 := by
  intro z hz
  rcases List.mem_or_eq_of_mem_set hz with h1 | h1
  · exact h z h1
  · rw [h1]; exact hy
theorem check_long {v : ByteArray} {b : Bool} {l : List S37} {e : ByteArray} {le : Bool} {j : Nat} {x : S37} (hv : v.size ≤ 1000) (hl : ∀ x ∈ l, x.f3.size ≤ 1000) (hx : l[j]? = some x) (hC : Can v b (l.map toA) e le) (d q : Int) (hd : 0 ≤ d) (hq : 0 ≤ q) :
    lin_Check.f v b ((l.set j ⟨x.f0 - d, x.f1, x.f2, x.f3, x.f4, x.f5⟩).set j ⟨x.f0 - d, x.f1 + q, x.f2, x.f3, x.f4, x.f5⟩) e le = some true := by
  have htoA : (l.map toA)[j]? = some (toA x) := by rw [List.getElem?_map, hx]; rfl
  rw [List.set_set]
  refine check_true hv (set_sizes hl (hl x (List.mem_of_getElem? hx))) ?_
  rw [set_map, toA_long]
  exact can_set htoA (wider_long (toA x) d q hd hq) hC
theorem check_un {v : ByteArray} {b : Bool} {l : List S37} {e : ByteArray} {le : Bool} {j : Nat} {x : S37} (hv : v.size ≤ 1000) (hl : ∀ x ∈ l, x.f3.size ≤ 1000) (hx : l[j]? = some x) (hC : Can v b (l.map toA) e le) :
    lin_Check.f v b (l.set j ⟨x.f0, x.f1, x.f2, x.f3, x.f4, false⟩) e le = some true := by
  have htoA : (l.map toA)[j]? = some (toA x) := by rw [List.getElem?_map, hx]; rfl
  refine check_true hv (set_sizes hl (hl x (List.mem_of_getElem? hx))) ?_
  rw [set_map, toA_un]
  exact can_set htoA (wider_unsure (toA x)) hC
theorem check_more {v : ByteArray} {b : Bool} {l : List S37} {e : ByteArray} {le : Bool} (x : S37) (hs : x.f5 = false) (hx : x.f3.size ≤ 1000) (hv : v.size ≤ 1000) (hl : ∀ x ∈ l, x.f3.size ≤ 1000) (hC : Can v b (l.map toA) e le) (hn : l.length + 1 ≤ 20) :
    lin_Check.f v b (l ++ [x]) e le = some true := by
  refine check_true hv ?_ ?_
  · intro y hy
    rcases List.mem_append.1 hy with h | h
    · exact hl y h
    · have : y = x := by simpa using h
      rw [this]; exact hx
  · rw [List.map_append]
    exact can_extra (x := toA x) hs (by simpa using hn) hC

set_option maxHeartbeats 2000000 in
theorem more_true (v : ByteArray) (b : Bool) (l : List S37) (e : ByteArray) (le : Bool) (a g : Nat) (ha : a < 256) (hg : g < 65536) (hlen : l.length ≤ 9223372036854775807) :
    lamplighterlaw22_LinMore.f (l.length + 10) v b l e le (a : Int) (g : Int) = some true := by
  unfold lamplighterlaw22_LinMore.f lamplighterlaw22_awake.f
  simp only [Option.bind_some]
  by_cases h1 : (v.size : Int) > 100
  · rw [if_pos h1]; exact more_up _ _ _ _ _ _ _ _
  rw [if_neg h1]
  by_cases h2 : (e.size : Int) > 100
  · rw [if_pos h2]; exact more_up _ _ _ _ _ _ _ _
  rw [if_neg h2]
  have hsh : lamplighterref22_Short.f (l.length + 10) l 12 = some (shortD l 0 12) := short_loop l 12 hlen l.length 0 _ (by omega) (by omega)
  rw [hsh]
  simp only [Option.bind_some]
  cases hs : shortD l 0 12 with
  | false => rw [if_neg (by simp)]; exact more_up _ _ _ _ _ _ _ _
  | true =>
    simp only [if_true]
    unfold shortD at hs
    rw [Bool.and_eq_true, List.drop_zero, List.all_eq_true, decide_eq_true_eq] at hs
    have hsz : ∀ x ∈ l, x.f3.size ≤ 1000 := fun x hx => by have := hs.1 x hx; simp at this; omega
    by_cases h0 : (l.length : Int) = 0
    · rw [if_pos h0]; exact more_up _ _ _ _ _ _ _ _
    rw [if_neg h0]
    by_cases hC : Can v b (l.map toA) e le
    · rw [check_true (by omega) hsz hC]
      simp only [Option.bind_some, Bool.not_true]
      have hn : 0 < l.length := by omega
      obtain ⟨j, hj⟩ : ∃ j, j = a % l.length := ⟨_, rfl⟩
      have hjl : j < l.length := by rw [hj]; exact Nat.mod_lt _ hn
      have hidx : Int.tmod (wrap64 (a : Int)) (l.length : Int) = (j : Int) := by
        rw [w64 (by omega) (by omega), Int.tmod_eq_emod_of_nonneg (by omega), hj]
        simp
      simp only [lamplighterlaw22_LinMore.j0]
      rw [if_neg (by simp), if_neg h0]
      simp only [hidx]
      rw [if_pos (by omega), if_pos (by omega), rd37 hjl]
      obtain ⟨x, hx⟩ : ∃ x, x = l[j] := ⟨_, rfl⟩
      have hget : l[j]? = some x := by rw [hx]; exact List.getElem?_eq_getElem hjl
      rw [← hx]
      by_cases r1 : x.f0 < -1099511627776
      · rw [if_pos r1]; exact more_up1 _ _ _ _ _ _ _ _ _ _ _ _ _ _
      rw [if_neg r1]
      by_cases r2 : x.f0 > 1099511627776
      · rw [if_pos r2]; exact more_up1 _ _ _ _ _ _ _ _ _ _ _ _ _ _
      rw [if_neg r2]
      by_cases r3 : x.f1 < -1099511627776
      · rw [if_pos r3]; exact more_up1 _ _ _ _ _ _ _ _ _ _ _ _ _ _
      rw [if_neg r3]
      by_cases r4 : x.f1 > 1099511627776
      · rw [show decide (x.f1 > 1099511627776) = true from decide_eq_true r4]; exact more_up1 _ _ _ _ _ _ _ _ _ _ _ _ _ _
      rw [show decide (x.f1 > 1099511627776) = false from decide_eq_false r4]
      have e50 : wrap64 (x.f0 - wrap64 (Int.tmod (g : Int) 50)) = x.f0 - ((g % 50 : Nat) : Int) := by
        rw [Int.tmod_eq_emod_of_nonneg (by omega), w64 (i := (g : Int) % 50) (by omega) (by omega), w64 (by omega) (by omega)]
        omega
      have e51 : wrap64 (x.f1 + wrap64 (IntKind.u16.wrap (Int.tdiv (g : Int) 50))) = x.f1 + ((g / 50 : Nat) : Int) := by
        have h : Int.tdiv (g : Int) 50 = ((g / 50 : Nat) : Int) := by rw [Int.tdiv_eq_ediv_of_nonneg (by omega)]; simp
        have hu : IntKind.u16.wrap ((g / 50 : Nat) : Int) = ((g / 50 : Nat) : Int) := by rw [IntKind.wrap_u16]; omega
        rw [h, hu, w64 (i := ((g / 50 : Nat) : Int)) (by omega) (by omega), w64 (by omega) (by omega)]
      have e5 : wrap64 (Int.tmod (g : Int) 5) = ((g % 5 : Nat) : Int) := by
        rw [Int.tmod_eq_emod_of_nonneg (by omega), w64 (by omega) (by omega)]
        omega
      have htoA : (l.map toA)[j]? = some (toA x) := by rw [List.getElem?_map, hget]; rfl
      have hxs : x.f3.size ≤ 1000 := hsz x (List.mem_of_getElem? hget)
      have hl12 : l.length ≤ 12 := by omega
      simp only [lamplighterlaw22_LinMore.j1]
      rw [if_neg (by simp)]
      simp only [Option.bind_some, List.nil_append, List.length_nil, Nat.zero_add, e50, e51, e5]
      rw [if_pos (by omega), if_pos (by omega), if_pos (by omega), rd37 hjl, ← hx, Int.toNat_natCast]
      have hset : ∀ y : S37, rd_T37 (l.set j y) (j : Int) = y := fun y => by rw [rd37 (by simpa using hjl)]; simp
      rw [hset]
      rw [if_pos (by omega), if_pos (by omega), if_pos (by omega), if_pos (by simp; omega)]
      simp only [if_true]
      rw [check_long (by omega) hsz hget hC ((g % 50 : Nat) : Int) ((g / 50 : Nat) : Int) (Int.natCast_nonneg _) (Int.natCast_nonneg _)]
      simp only [Option.bind_some, if_true]
      rw [check_un (by omega) hsz hget hC]
      simp only [Option.bind_some, if_true]
      rw [check_more _ rfl (show v.size ≤ 1000 by omega) (by omega) hsz hC (by omega)]
      rfl
    · rw [check_false (by omega) hsz hC]
      simp only [Option.bind_some, Bool.not_false]
      exact more_up _ _ _ _ _ _ _ _

theorem law_more (v : ByteArray) (b : Bool) (A : Option Addr) (n c : Nat) (l : List PA) (e : ByteArray) (le : Bool) (a g : Int) (w : World) (h : n ≤ c ∧ c ≤ maxLen ∧ RA w A n l) (ha : (Lit.int .u8 a).wf = true) (hg : (Lit.int .u16 g).wf = true) :
    Calls Try.prog 5 #[.string v, .bool b, .slice A n c, .string e, .bool le, .int .u8 a, .int .u16 g] w fun e w' => e = .returned (.bool true) ∧ Below w.heap.size w w' := by
  obtain ⟨h1, h2, h3⟩ := h
  unfold maxLen at h2
  have b0 : 0 ≤ a ∧ a ≤ 255 := by simpa [Lit.wf, IntKind.min, IntKind.max, IntKind.signed, IntKind.bits] using ha
  have b1 : 0 ≤ g ∧ g ≤ 65535 := by simpa [Lit.wf, IntKind.min, IntKind.max, IntKind.signed, IntKind.bits] using hg
  obtain ⟨s, rfl⟩ := Int.eq_ofNat_of_zero_le b0.1
  obtain ⟨t, rfl⟩ := Int.eq_ofNat_of_zero_le b1.1
  have hk := more_true v b (l.map ofA) e le s t (by omega) (by omega) (by rw [List.length_map, h3.1]; omega)
  have := lamplighterlaw22_LinMore.calls _ v b A c (l.map ofA) e le (s : Int) (t : Int) true w (C_of_ra h3 (by omega)) (by rw [List.length_map, h3.1]; exact h1) hk
  rwa [List.length_map, h3.1] at this
end Go.Proofs.Ytdblecmelmeibaa.PM
