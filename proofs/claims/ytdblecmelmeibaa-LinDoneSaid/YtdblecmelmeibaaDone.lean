/- The plain side of the statement LinDone: what was done one behind the other may have been, whatever order it is told in. -/
import Derived.Test.YtdblecmelmeibaaPHx4
namespace Go.Proofs.Ytdblecmelmeibaa.PH
open Go.RowKit Go.Proofs.YtdblecmelmeibaaW.PrintWords Go.Proofs.YtdblecmelmeibaaW.PrintLast Go.Proofs.YtdblecmelmeibaaW.PrintMore
set_option linter.unusedVariables false
set_option linter.unusedSimpArgs false

def toT (x : S33) : PT := ⟨x.f0.toNat, x.f1, x.f2.toNat, x.f3⟩
theorem toT_val (x : S33) : (toT x).val = x.f1 := rfl
theorem toT_sure (x : S33) : (toT x).sure = x.f3 := rfl
def Fits (l : List S33) : Prop := ∀ x ∈ l, 0 ≤ x.f0 ∧ x.f0 < 256 ∧ 0 ≤ x.f2 ∧ x.f2 < 256
theorem w64 {i : Int} (h0 : -9223372036854775808 ≤ i) (h1 : i ≤ 9223372036854775807) : wrap64 i = i := by unfold wrap64; omega
theorem rd33 {l : List S33} {i : Nat} (h : i < l.length) : rd_T33 l (i : Int) = l[i] := by
  unfold rd_T33
  rw [List.getD_eq_getElem?_getD, Int.toNat_natCast, List.getElem?_eq_getElem h]; rfl
theorem rd37 {l : List S37} {i : Nat} (h : i < l.length) : rd_T37 l (i : Int) = l[i] := by
  unfold rd_T37
  rw [List.getD_eq_getElem?_getD, Int.toNat_natCast, List.getElem?_eq_getElem h]; rfl

theorem kind_of (x : S33) (h0 : 0 ≤ x.f0) (h1 : x.f0 < 256) : wrap64 (1 + wrap64 (Int.tmod x.f0 3)) = turnKind (toT x) := by
  have e : Int.tmod x.f0 3 = x.f0 % 3 := Int.tmod_eq_emod_of_nonneg h0
  rw [e, w64 (i := x.f0 % 3) (by omega) (by omega), w64 (by omega) (by omega)]
  unfold turnKind toT
  simp only
  omega
theorem from_of (x : S33) (i : Nat) (hi : i ≤ 1000) (h0 : 0 ≤ x.f2) (h1 : x.f2 < 256) : wrap64 (wrap64 (10 * (i : Int)) - wrap64 (Int.tmod x.f2 40)) = 10 * (i : Int) - (((toT x).long % 40 : Nat) : Int) := by
  have e : Int.tmod x.f2 40 = x.f2 % 40 := Int.tmod_eq_emod_of_nonneg h0
  rw [e, w64 (i := 10 * (i : Int)) (by omega) (by omega), w64 (i := x.f2 % 40) (by omega) (by omega), w64 (by omega) (by omega)]
  unfold toT
  simp only
  omega
theorem till_of (x : S33) (i : Nat) (hi : i ≤ 1000) (h0 : 0 ≤ x.f2) (h1 : x.f2 < 256) : wrap64 (wrap64 (10 * (i : Int)) + wrap64 (Int.tmod x.f2 30)) = 10 * (i : Int) + (((toT x).long % 30 : Nat) : Int) := by
  have e : Int.tmod x.f2 30 = x.f2 % 30 := Int.tmod_eq_emod_of_nonneg h0
  rw [e, w64 (i := 10 * (i : Int)) (by omega) (by omega), w64 (i := x.f2 % 30) (by omega) (by omega), w64 (by omega) (by omega)]
  unfold toT
  simp only
  omega

theorem done_loop (l : List S33) (hf : Fits l) (hl : l.length ≤ 12) : ∀ (d i k : Nat), i + d = l.length → 3 * d < k →
    lamplighterlaw22_done.l0 k l ((doneTo (l.map toT) i).1.map ofA) (doneTo (l.map toT) i).2.val (doneTo (l.map toT) i).2.is (i : Int) =
      some ((doneTo (l.map toT) l.length).1.map ofA, (doneTo (l.map toT) l.length).2.val, (doneTo (l.map toT) l.length).2.is) := by
  intro d
  induction d with
  | zero =>
    intro i k hi hk
    obtain ⟨k, rfl⟩ : ∃ m, k = m + 1 := ⟨k - 1, by omega⟩
    obtain rfl : i = l.length := by omega
    simp only [lamplighterlaw22_done.l0]
    rw [if_neg (by omega)]
  | succ d ih =>
    intro i k hi hk
    obtain ⟨k, rfl⟩ : ∃ m, k = m + 3 := ⟨k - 3, by omega⟩
    have hil : i < l.length := by omega
    have ih := ih (i + 1) k (by omega) (by omega)
    have hx := hf l[i] (List.getElem_mem hil)
    have hget : (l.map toT)[i]? = some (toT l[i]) := by rw [List.getElem?_map, List.getElem?_eq_getElem hil]; rfl
    have hlen : (doneTo (l.map toT) i).1.length = i := done_len _ _ (by simp; omega)
    have hstep : doneTo (l.map toT) (i + 1) = ((doneTo (l.map toT) i).1 ++ [turnAct i (doneTo (l.map toT) i).2 (toT l[i])], turnKey (doneTo (l.map toT) i).2 (toT l[i])) := by
      rw [doneTo, hget]
    have hlim : ((doneTo (l.map toT) i).1.map ofA).length < 2932031007402 := by rw [List.length_map, hlen]; omega
    have hw : wrap64 ((i : Int) + 1) = ((i + 1 : Nat) : Int) := by rw [w64 (by omega) (by omega)]; simp
    simp only [lamplighterlaw22_done.l0]
    rw [if_pos (by omega), if_pos (by omega), rd33 hil, kind_of _ hx.1 hx.2.1, from_of _ i (by omega) hx.2.2.1 hx.2.2.2, till_of _ i (by omega) hx.2.2.1 hx.2.2.2]
    generalize hD : doneTo (l.map toT) i = D at *
    obtain ⟨das, kv, ki⟩ := D
    rw [hstep] at ih
    simp only [List.map_append, List.map_cons, List.map_nil] at ih
    have h3 : turnKind (toT l[i]) = 1 ∨ turnKind (toT l[i]) = 2 ∨ turnKind (toT l[i]) = 3 := by unfold turnKind; omega
    simp only at hlim ⊢
    rcases h3 with h | h | h
    · have ea : ofA (turnAct i ⟨kv, ki⟩ (toT l[i])) = ⟨10 * (i : Int) - (((toT l[i]).long % 40 : Nat) : Int), 10 * (i : Int) + (((toT l[i]).long % 30 : Nat) : Int), 1, l[i].f1, ki, l[i].f3⟩ := by
        simp [ofA, turnAct, h, toT_val, toT_sure]
      have ek : turnKey ⟨kv, ki⟩ (toT l[i]) = ⟨l[i].f1, true⟩ := by simp [turnKey, h, toT_val]
      rw [ea, ek] at ih
      rw [if_neg (by omega)]
      simp only [lamplighterlaw22_done.j1]
      rw [if_neg (by simp)]
      simp only [lamplighterlaw22_done.j2]
      rw [if_pos h, if_pos (by omega), if_pos (by omega), if_neg (by omega), if_pos hlim, rd33 hil, hw, h]
      exact ih
    · have ek : turnKey ⟨kv, ki⟩ (toT l[i]) = ⟨kv, ki⟩ := by simp [turnKey, h]
      rw [ek] at ih
      rw [if_pos h]
      simp only [lamplighterlaw22_done.j1]
      cases ki with
      | true =>
        have ea : ofA (turnAct i ⟨kv, true⟩ (toT l[i])) = ⟨10 * (i : Int) - (((toT l[i]).long % 40 : Nat) : Int), 10 * (i : Int) + (((toT l[i]).long % 30 : Nat) : Int), 2, kv, true, l[i].f3⟩ := by
          simp [ofA, turnAct, h, toT_val, toT_sure]
        rw [ea] at ih
        rw [if_pos rfl]
        simp only [lamplighterlaw22_done.j2]
        rw [if_neg (by omega), if_neg (by omega), if_pos hlim, hw, h]
        exact ih
      | false =>
        have ea : ofA (turnAct i ⟨kv, false⟩ (toT l[i])) = ⟨10 * (i : Int) - (((toT l[i]).long % 40 : Nat) : Int), 10 * (i : Int) + (((toT l[i]).long % 30 : Nat) : Int), 2, ⟨#[]⟩, false, l[i].f3⟩ := by
          simp [ofA, turnAct, h, toT_val, toT_sure]
        rw [ea] at ih
        rw [if_neg (by simp)]
        simp only [lamplighterlaw22_done.j2]
        rw [if_neg (by omega), if_neg (by omega), if_pos hlim, hw, h]
        exact ih
    · have ea : ofA (turnAct i ⟨kv, ki⟩ (toT l[i])) = ⟨10 * (i : Int) - (((toT l[i]).long % 40 : Nat) : Int), 10 * (i : Int) + (((toT l[i]).long % 30 : Nat) : Int), 3, ⟨#[]⟩, ki, l[i].f3⟩ := by
        simp [ofA, turnAct, h, toT_val, toT_sure]
      have ek : turnKey ⟨kv, ki⟩ (toT l[i]) = ⟨⟨#[]⟩, false⟩ := by simp [turnKey, h]
      rw [ea, ek] at ih
      rw [if_neg (by omega)]
      simp only [lamplighterlaw22_done.j1]
      rw [if_neg (by simp)]
      simp only [lamplighterlaw22_done.j2]
      rw [if_neg (by omega), if_pos h, if_pos hlim, hw, h]
      exact ih

theorem done_sizes (ts : List PT) (h : ∀ t ∈ ts, t.val.size ≤ 100) : ∀ n, (∀ x ∈ (doneTo ts n).1, x.val.size ≤ 100) ∧ (doneTo ts n).2.val.size ≤ 100
  | 0 => ⟨by simp [doneTo], by simp only [doneTo]; decide⟩
  | n + 1 => by
    obtain ⟨h1, h2⟩ := done_sizes ts h n
    rw [doneTo]
    split
    · rename_i t ht
      have hts := h t (List.mem_of_getElem? ht)
      refine ⟨fun x hx => ?_, ?_⟩
      · rcases List.mem_append.1 hx with hx | hx
        · exact h1 x hx
        · have : x = turnAct n (doneTo ts n).2 t := by simpa using hx
          rw [this]
          simp only [turnAct]
          split
          · exact hts
          · split
            · exact h2
            · decide
      · simp only [turnKey]
        split
        · exact hts
        · split
          · decide
          · exact h2
    · exact ⟨h1, h2⟩

theorem check_true {v : ByteArray} {b : Bool} {l : List PA} {e : ByteArray} {le : Bool} (hv : v.size ≤ 1000) (hl : ∀ x ∈ l, x.val.size ≤ 1000) (hc : Can v b l e le) : lin_Check.f v b (l.map ofA) e le = some true := by
  unfold lin_Check.f
  rw [if_pos ⟨hv, fun x hx => by obtain ⟨y, hy, rfl⟩ := List.mem_map.1 hx; exact hl y hy⟩, to_of]
  simp [hc]

theorem turn_loop (acts : List PA) (t : Nat) (val : ByteArray) (is : Bool) (hn : acts.length ≤ 12) (ht : t < 256) (hs : ∀ x ∈ acts, x.val.size ≤ 1000) (hc : Can ⟨#[]⟩ false acts val is) :
    ∀ (d i k : Nat), i + d = acts.length → d < k → lamplighterlaw22_LinDone.l1 k (t : Int) true (acts.map ofA) val is ((turned acts t i).map ofA) (i : Int) = some true := by
  intro d
  induction d with
  | zero =>
    intro i k hi hk
    obtain ⟨k, rfl⟩ : ∃ m, k = m + 1 := ⟨k - 1, by omega⟩
    obtain rfl : i = acts.length := by omega
    have hp := turned_perm acts t
    simp only [lamplighterlaw22_LinDone.l1]
    rw [if_neg (by simp)]
    simp only [if_true]
    rw [check_true (by decide) hs hc]
    simp only [Option.bind_some, if_true]
    rw [check_true (by decide) (fun x hx => hs x (hp.mem_iff.2 hx)) (can_perm hc hp)]
    rfl
  | succ d ih =>
    intro i k hi hk
    obtain ⟨k, rfl⟩ : ∃ m, k = m + 1 := ⟨k - 1, by omega⟩
    have ih := ih (i + 1) k (by omega) (by omega)
    have hm : (i + t) % acts.length < acts.length := Nat.mod_lt _ (by omega)
    have hw : wrap64 ((i : Int) + 1) = ((i + 1 : Nat) : Int) := by rw [w64 (by omega) (by omega)]; simp
    have hidx : Int.tmod (wrap64 ((i : Int) + wrap64 (t : Int))) ((acts.map ofA).length : Int) = (((i + t) % acts.length : Nat) : Int) := by
      rw [w64 (i := (t : Int)) (by omega) (by omega), w64 (by omega) (by omega), List.length_map, Int.tmod_eq_emod_of_nonneg (by omega)]
      simp
    simp only [lamplighterlaw22_LinDone.l1]
    have c1 : (i : Int) < ((acts.map ofA).length : Int) := by simp; omega
    have c2 : ¬ ((acts.map ofA).length : Int) = 0 := by omega
    have c3 : (0 : Int) ≤ (((i + t) % acts.length : Nat) : Int) := Int.natCast_nonneg _
    have c4 : (((i + t) % acts.length : Nat) : Int) < ((acts.map ofA).length : Int) := by rw [List.length_map]; exact Int.ofNat_lt.2 hm
    have c5 : ((turned acts t i).map ofA).length < 2932031007402 := by rw [List.length_map, turned_len acts t i (by omega)]; omega
    rw [if_pos c1, if_neg c2, hidx, if_pos c3, if_pos c4, if_pos c5, rd37 (by simpa using hm), hw]
    rw [turned, List.getElem?_eq_getElem hm] at ih
    simp only [Option.toList_some, List.map_append, List.map_cons, List.map_nil] at ih
    simp only [List.getElem_map]
    exact ih

theorem done_true (l : List S33) (t : Nat) (ht : t < 256) (hf : Fits l) : ∃ k, lamplighterlaw22_LinDone.f k l (t : Int) = some true := by
  refine ⟨100, ?_⟩
  unfold lamplighterlaw22_LinDone.f lamplighterlaw22_awake.f
  simp only [Option.bind_some]
  by_cases h12 : (l.length : Int) > 12
  · rw [if_pos h12]
  · rw [if_neg h12]
    have hl : l.length ≤ 12 := by omega
    have key : ∀ (d i k : Nat), i + d = l.length → d + 60 < k → (∀ j (h : j < l.length), j < i → l[j].f1.size ≤ 100) → lamplighterlaw22_LinDone.l0 k l (t : Int) true (i : Int) = some true := by
      intro d
      induction d with
      | zero =>
        intro i k hi hk hs
        obtain ⟨k, rfl⟩ : ∃ m, k = m + 1 := ⟨k - 1, by omega⟩
        obtain rfl : i = l.length := by omega
        simp only [lamplighterlaw22_LinDone.l0]
        rw [if_neg (by omega)]
        have hd := done_loop l hf hl l.length 0 k (by omega) (by omega)
        unfold lamplighterlaw22_done.f
        have e0 : ((0 : Nat) : Int) = 0 := rfl
        simp only [doneTo, List.map_nil, e0] at hd
        rw [hd]
        simp only [Option.bind_some]
        have hts : ∀ t ∈ l.map toT, t.val.size ≤ 100 := by
          intro t ht
          obtain ⟨x, hx, rfl⟩ := List.mem_map.1 ht
          obtain ⟨j, hj, rfl⟩ := List.mem_iff_getElem.1 hx
          exact hs j hj hj
        have hsz := done_sizes (l.map toT) hts l.length
        have hlen : (doneTo (l.map toT) l.length).1.length = l.length := done_len _ _ (by simp)
        have hcan := can_done (l.map toT) (by simp; omega)
        rw [List.length_map] at hcan
        have := turn_loop (doneTo (l.map toT) l.length).1 t _ _ (by omega) ht (fun x hx => Nat.le_trans (hsz.1 x hx) (by omega)) hcan l.length 0 k (by omega) (by omega)
        simpa [turned] using this
      | succ d ih =>
        intro i k hi hk hs
        obtain ⟨k, rfl⟩ : ∃ m, k = m + 1 := ⟨k - 1, by omega⟩
        have hil : i < l.length := by omega
        have hw : wrap64 ((i : Int) + 1) = ((i + 1 : Nat) : Int) := by rw [w64 (by omega) (by omega)]; simp
        simp only [lamplighterlaw22_LinDone.l0]
        rw [if_pos (by omega), if_pos (by omega), rd33 hil]
        by_cases h : (l[i].f1.size : Int) > 100
        · rw [if_pos h]
        · rw [if_neg h, hw]
          refine ih (i + 1) k (by omega) (by omega) (fun j hj hji => ?_)
          by_cases e : j = i
          · subst e; omega
          · exact hs j hj (by omega)
    exact key l.length 0 100 (by omega) (by omega) (fun j hj h => by omega)

def ofT (t : PT) : S33 := ⟨t.kind, t.val, t.long, t.sure⟩
theorem C_of_rt {w : World} {A : Option Addr} {n : Nat} {l : List PT} (h : RT w A n l) (hn : n ≤ 9223372036854775807) : Kd.C k33 w A (l.map ofT).length (l.map ofT) := by
  refine ⟨rfl, by rw [List.length_map, h.1]; exact hn, fun h0 => ?_⟩
  rw [List.length_map, h.1] at h0
  obtain ⟨ad, e, _, hc⟩ := h.2 h0
  refine ⟨ad, e, fun i y hy => ?_⟩
  rw [List.getElem?_map, Option.map_eq_some_iff] at hy
  obtain ⟨x, hx, rfl⟩ := hy
  obtain ⟨h0, h1, h2, h3, _, _⟩ := hc i x hx
  refine ⟨[.int .u8 x.kind, .string x.val, .int .u8 x.long, .bool x.sure], rfl, k33_mk w (ofT x), fun j u hu => ?_⟩
  show w.cell? (ad.add (i * 4 + j)) = some u
  rw [← add_of_add]
  match j, hu with
  | 0, hu => simp at hu; rw [← hu, zero_of]; exact h0
  | 1, hu => simp at hu; rw [← hu, field_of _ 1 (by omega)]; exact h1
  | 2, hu => simp at hu; rw [← hu, field_of _ 2 (by omega)]; exact h2
  | 3, hu => simp at hu; rw [← hu, field_of _ 3 (by omega)]; exact h3
  | j + 4, hu => simp at hu
theorem fits_of_rt {w : World} {A : Option Addr} {n : Nat} {l : List PT} (h : RT w A n l) : Fits (l.map ofT) := by
  intro x hx
  obtain ⟨t, ht, rfl⟩ := List.mem_map.1 hx
  obtain ⟨i, hi, rfl⟩ := List.mem_iff_getElem.1 ht
  obtain ⟨ad, e, _, hc⟩ := h.2 (by rw [← h.1]; omega)
  obtain ⟨_, _, _, _, k1, k2⟩ := hc i _ (List.getElem?_eq_getElem hi)
  simp only [ofT]
  omega
theorem law_done (A : Option Addr) (n c : Nat) (l : List PT) (a : Int) (w : World) (h : n ≤ c ∧ c ≤ maxLen ∧ RT w A n l) (ha : (Lit.int .u8 a).wf = true) :
    Calls Try.prog 4 #[.slice A n c, .int .u8 a] w fun e w' => e = .returned (.bool true) ∧ Below w.heap.size w w' := by
  obtain ⟨h1, h2, h3⟩ := h
  unfold maxLen at h2
  have b0 : 0 ≤ a ∧ a ≤ 255 := by simpa [Lit.wf, IntKind.min, IntKind.max, IntKind.signed, IntKind.bits] using ha
  obtain ⟨t, rfl⟩ := Int.eq_ofNat_of_zero_le b0.1
  obtain ⟨k, hk⟩ := done_true (l.map ofT) t (by omega) (fits_of_rt h3)
  have := lamplighterlaw22_LinDone.calls k A c (l.map ofT) (t : Int) true w (C_of_rt h3 (by omega)) (by rw [List.length_map, h3.1]; exact h1) hk
  rwa [List.length_map, h3.1] at this
end Go.Proofs.Ytdblecmelmeibaa.PH
