/- Among slots whose keys rise a key has the place behind all that stand ahead of it: the statement on plain lists. -/
import Derived.Test.YtliaemoomhfcdaaBPx1
import Derived.Test.YtliaemoomhfcdaaRiseP
namespace Go.Proofs.Ytliaemoomhfcdaa
open Go.RowKit Go.Proofs.YtliaemoomhfcdaaW.PrintWords
set_option linter.unusedVariables false
set_option linter.unusedSimpArgs false
set_option maxRecDepth 1000000
namespace BP
theorem rd_get {l : List S53} {i : Nat} (h : i < l.length) : (l.map toP)[i]? = some (toP (rd_T53 l (i : Int))) := by
  rw [List.getElem?_map, List.getElem?_eq_getElem h]
  unfold rd_T53
  simp [List.getD_eq_getElem?_getD, List.getElem?_eq_getElem h]
theorem wrap_s {i n : Nat} (h : i < n) (hn : n ≤ maxLen) : wrap64 ((i : Int) + 1) = ((i + 1 : Nat) : Int) := by
  unfold maxLen at hn
  rw [w64_id (by omega) (by omega)]; rfl
theorem wrap_p {i n : Nat} (h1 : 1 ≤ i) (h : i ≤ n) (hn : n ≤ maxLen) : wrap64 ((i : Int) - 1) = ((i - 1 : Nat) : Int) := by
  unfold maxLen at hn
  rw [w64_id (by omega) (by omega)]; omega
theorem short_l0 (l : List S53) (m : Int) (hn : l.length ≤ maxLen) (hm : (l.length : Int) ≤ m) (hs : ∀ x ∈ l, x.f0.size ≤ 100 ∧ x.f1.size ≤ 100) : ∀ (n i : Nat), l.length - i = n → i ≤ l.length → ∀ k, n < k → lamplighterref12_Short.l0 k l m (i : Int) = some true := by
  intro n
  induction n with
  | zero =>
    intro i hd hi k hk
    obtain ⟨k, rfl⟩ : ∃ q, k = q + 1 := ⟨k - 1, by omega⟩
    rw [lamplighterref12_Short.l0, if_neg (by omega), decide_eq_true hm]
  | succ n ih =>
    intro i hd hi k hk
    obtain ⟨k, rfl⟩ : ∃ q, k = q + 1 := ⟨k - 1, by omega⟩
    have hlt : i < l.length := by omega
    have hx : rd_T53 l (i : Int) ∈ l := by
      unfold rd_T53
      rw [show ((i : Int)).toNat = i from rfl, List.getD_eq_getElem?_getD, List.getElem?_eq_getElem hlt]
      exact List.getElem_mem hlt
    obtain ⟨h1, h2⟩ := hs _ hx
    rw [lamplighterref12_Short.l0, if_pos (by omega), if_pos (by omega), if_neg (by omega), if_neg (by omega), wrap_s hlt hn]
    exact ih (i + 1) (by omega) (by omega) k (by omega)
end BP
theorem plainFrom_all : ∀ (l : List Int) (p : Int), (plainFrom p l).length = l.length → plainFrom p l = l
  | [], _, _ => rfl
  | y :: t, p, h => by
    rw [plainFrom] at h ⊢
    split at h
    · have := plainFrom_len t p
      simp at h
      omega
    · rename_i hy
      rw [if_neg hy, plainFrom_all t y (by simpa using h)]
theorem plainOf_all {l : List Int} (h : (plainOf l).length = l.length) : plainOf l = l := by
  cases l with
  | nil => rfl
  | cons x t =>
    rw [plainOf] at h ⊢
    rw [plainFrom_all t x (by simpa using h)]
theorem ownOf_all {ne : Int} {high : ByteArray} {rc : Int → PRec × Int} : ∀ {l : List Int}, (ownOf ne high rc l).length = l.length → ownOf ne high rc l = l.map (fun s => ((rc s).1.key, (rc s).1.val))
  | [], _ => rfl
  | s :: t, h => by
    simp only [ownOf] at h ⊢
    split at h
    · simp at h
    · rename_i hn
      rw [if_neg hn, ownOf_all (by simpa using h)]
      rfl
theorem rec_size (ws : List Int) (s : Int) : (recRead ws s).1.key.size ≤ 100 ∧ (recRead ws s).1.val.size ≤ 100 := by
  have hz : (PRec.zero).key.size ≤ 100 ∧ (PRec.zero).val.size ≤ 100 := ⟨by decide, by decide⟩
  have hd : ∀ f is x, (recDone f is x).1.key.size ≤ 100 ∧ (recDone f is x).1.val.size ≤ 100 := by
    intro f is x
    unfold recDone
    split
    · exact hz
    · split
      · exact hz
      · rename_i h1
        split
        · have h2 : recOk x = true := by simpa using h1
          unfold recOk at h2
          split at h2
          · simp only [Bool.and_eq_true, decide_eq_true_eq] at h2
            exact ⟨by show x.key.size ≤ 100; omega, by show x.val.size ≤ 100; omega⟩
          · split at h2
            · simp only [Bool.and_eq_true, decide_eq_true_eq] at h2
              exact ⟨by show x.key.size ≤ 100; omega, by show x.val.size ≤ 100; omega⟩
            · cases h2
        · exact hz
  unfold recRead
  split
  · exact hz
  · split
    · exact hz
    · unfold recRead16
      split
      · exact hz
      · split
        · exact hd _ _ _
        · split <;> exact hd _ _ _
theorem slots_recs {ws : List Int} {low : ByteArray} : ∀ (sl : List Int) (f : Bool) (last : ByteArray), slotsOk ws low f last sl = true → ∀ s ∈ sl, (recRead ws s).2 = 0
  | [], _, _, _, s, hs => by cases hs
  | x :: t, f, last, h, s, hs => by
    simp only [slotsOk, Bool.and_eq_true] at h
    rcases List.mem_cons.1 hs with rfl | hs
    · have := h.1
      simp only [slotOk, Bool.and_eq_true, decide_eq_true_eq] at this
      exact this.1.1.1
    · exact slots_recs t _ _ h.2 s hs
theorem place_after (ws : List Int) (key : ByteArray) (len : Int) : ∀ (sl : List Int) (i a : Int), 0 ≤ a → (∀ s ∈ sl, (recRead ws s).2 = 0) → (∀ s ∈ sl, ltS key (recRead ws s).1.key = true) → placeGo ws key len sl i a = (a, false)
  | [], i, a, ha, _, _ => by rw [placeGo, if_neg (by omega)]
  | s :: t, i, a, ha, h1, h2 => by
    have hs := h2 s List.mem_cons_self
    have hlt : ¬ ltS (recRead ws s).1.key key = true := by rw [ltS_asymm hs]; simp
    have hne : ¬ (recRead ws s).1.key.toList = key.toList := by
      intro e
      rw [ltS_cong rfl e, ltS_irr] at hs
      cases hs
    rw [placeGo, if_pos (h1 s List.mem_cons_self), if_neg hlt, if_neg hne, if_neg (by omega)]
    exact place_after ws key len t (i + 1) a ha (fun u hu => h1 u (List.mem_cons_of_mem _ hu)) (fun u hu => h2 u (List.mem_cons_of_mem _ hu))
def ltK (key : ByteArray) (p : KV) : Bool := ltS p.1 key
theorem place_rise (ws : List Int) (key : ByteArray) : ∀ (sl : List Int) (i : Nat), (∀ s ∈ sl, (recRead ws s).2 = 0) → sl.Pairwise (fun s t => ltS (recRead ws s).1.key (recRead ws t).1.key = true) →
    placeGo ws key ((i + sl.length : Nat) : Int) sl (i : Int) (-1) = (((i + (sl.map (fun s => ((recRead ws s).1.key, (recRead ws s).1.val))).countP (ltK key) : Nat) : Int), (sl.map (fun s => ((recRead ws s).1.key, (recRead ws s).1.val))).any (keyIs key))
  | [], i, _, _ => by
    rw [placeGo, if_pos (by omega)]
    simp
  | s :: t, i, h1, h2 => by
    obtain ⟨p, q⟩ := List.pairwise_cons.1 h2
    have h1t : ∀ u ∈ t, (recRead ws u).2 = 0 := fun u hu => h1 u (List.mem_cons_of_mem _ hu)
    have hgt : ltS (recRead ws s).1.key key = false → ∀ u ∈ t, ltS key (recRead ws u).1.key = true := by
      intro hf u hu
      by_cases he : (recRead ws s).1.key.toList = key.toList
      · have := p u hu
        rwa [ltS_cong he rfl] at this
      · exact ltS_trans (ltS_tri hf he) (p u hu)
    have hnone : ltS (recRead ws s).1.key key = false → (t.map (fun s => ((recRead ws s).1.key, (recRead ws s).1.val))).countP (ltK key) = 0 ∧ (t.map (fun s => ((recRead ws s).1.key, (recRead ws s).1.val))).any (keyIs key) = false := by
      intro hf
      constructor
      · rw [List.countP_eq_zero]
        intro x hx
        obtain ⟨u, hu, rfl⟩ := List.mem_map.1 hx
        show ¬ ltS (recRead ws u).1.key key = true
        rw [ltS_asymm (hgt hf u hu)]
        simp
      · rw [List.any_eq_false]
        intro x hx hk
        obtain ⟨u, hu, rfl⟩ := List.mem_map.1 hx
        have h3 := hgt hf u hu
        rw [ltS_cong rfl (keyIs_iff.1 hk), ltS_irr] at h3
        cases h3
    rw [placeGo, if_pos (h1 s List.mem_cons_self)]
    by_cases hlt : ltS (recRead ws s).1.key key = true
    · have hne : keyIs key ((recRead ws s).1.key, (recRead ws s).1.val) = false := by
        cases hk : keyIs key ((recRead ws s).1.key, (recRead ws s).1.val) with
        | false => rfl
        | true =>
          have h3 := hlt
          rw [ltS_cong (keyIs_iff.1 hk) rfl, ltS_irr] at h3
          cases h3
      have ih := place_rise ws key t (i + 1) h1t q
      rw [if_pos hlt, show ((i + (s :: t).length : Nat) : Int) = ((i + 1 + t.length : Nat) : Int) from by simp only [List.length_cons]; omega, show ((i : Int) + 1) = ((i + 1 : Nat) : Int) from rfl, ih, List.map_cons, List.countP_cons_of_pos (show ltK key ((recRead ws s).1.key, (recRead ws s).1.val) = true from hlt), List.any_cons, hne, Bool.false_or]
      congr 2
      omega
    · have hf : ltS (recRead ws s).1.key key = false := by simpa using hlt
      obtain ⟨c0, a0⟩ := hnone hf
      rw [if_neg hlt, List.map_cons, List.countP_cons_of_neg (show ¬ ltK key ((recRead ws s).1.key, (recRead ws s).1.val) = true from hlt), c0, List.any_cons, a0, Bool.or_false]
      by_cases he : (recRead ws s).1.key.toList = key.toList
      · rw [if_pos he, show keyIs key ((recRead ws s).1.key, (recRead ws s).1.val) = true from keyIs_iff.2 he]
        simp
      · have hk : keyIs key ((recRead ws s).1.key, (recRead ws s).1.val) = false := by
          cases hk : keyIs key ((recRead ws s).1.key, (recRead ws s).1.val) with
          | false => rfl
          | true => exact absurd (keyIs_iff.1 hk) he
        rw [if_neg he, if_pos (by omega), hk, place_after ws key _ t _ _ (by omega) h1t (hgt hf)]
        simp
theorem get_any_is (l : List KV) (key : ByteArray) : (getOf l key).2 = l.any (keyIs key) := by
  unfold getOf
  cases hf : l.find? (keyIs key) with
  | none =>
    have : l.any (keyIs key) = false := by
      rw [List.any_eq_false]
      intro x hx
      exact List.find?_eq_none.1 hf x hx
    rw [this]
  | some x =>
    have : l.any (keyIs key) = true := List.any_eq_true.2 ⟨x, List.mem_of_find?_eq_some hf, List.find?_some hf⟩
    rw [this]
theorem places_end (key : ByteArray) (o : List KV) (ho : o.length ≤ 13) (hs : ∀ x ∈ o, x.1.size ≤ 100 ∧ x.2.size ≤ 100) (k : Nat) (hk : 100 ≤ k) :
    BP.lamplighterlaw15_IndexPlaces.l0 (k + 1) key true (o.map BP.ofP) ((o.countP (ltK key) : Nat) : Int) (o.any (keyIs key)) ((o.countP (ltK key) : Nat) : Int) ((o.map BP.ofP).length : Int) = some true := by
  have hw := with_len o key ⟨#[49]⟩
  have hw2 := without_len o key
  rw [BP.lamplighterlaw15_IndexPlaces.l0, if_neg (by omega)]
  unfold BP.amap_Get.f BP.amap_With.f
  rw [List.length_map, if_pos (by omega), if_pos (by omega)]
  simp only [Option.bind_some]
  rw [BP.map_to_of, BP.map_to_of, List.length_map, if_pos (by omega), get_with, get_any_is]
  simp only [Option.bind_some]
  have hsh : BP.lamplighterref12_Short.f k (o.map BP.ofP) 13 = some true := by
    refine BP.short_l0 _ 13 (by rw [List.length_map]; unfold maxLen; omega) (by rw [List.length_map]; omega) (fun x hx => ?_) (o.map BP.ofP).length 0 (by omega) (by omega) k (by rw [List.length_map]; omega)
    obtain ⟨y, hy, rfl⟩ := List.mem_map.1 hx
    exact hs y hy
  rw [hsh]
  have h49 : (⟨#[49]⟩ : ByteArray).toList = [49] := by kernel_rfl
  simp [h49]
theorem places_l0 (key : ByteArray) (o : List KV) (ho : o.length ≤ 13) (hs : ∀ x ∈ o, x.1.size ≤ 100 ∧ x.2.size ≤ 100) : ∀ (n i : Nat), o.length - i = n → i ≤ o.length → ∀ k, n + 200 < k →
    BP.lamplighterlaw15_IndexPlaces.l0 k key true (o.map BP.ofP) ((o.countP (ltK key) : Nat) : Int) (o.any (keyIs key)) (((o.take i).countP (ltK key) : Nat) : Int) (i : Int) = some true := by
  intro n
  induction n with
  | zero =>
    intro i hd hi k hk
    obtain ⟨k, rfl⟩ : ∃ q, k = q + 1 := ⟨k - 1, by omega⟩
    obtain rfl : i = o.length := by omega
    have := places_end key o ho hs k (by omega)
    rw [List.length_map] at this
    rw [List.take_length]
    exact this
  | succ n ih =>
    intro i hd hi k hk
    obtain ⟨k, rfl⟩ : ∃ q, k = q + 1 := ⟨k - 1, by omega⟩
    have hlt : i < o.length := by omega
    have hg := BP.rd_get (l := o.map BP.ofP) (i := i) (by rw [List.length_map]; omega)
    rw [BP.map_to_of, List.getElem?_eq_getElem hlt] at hg
    injection hg with hg
    have hcl : (o.take i).countP (ltK key) ≤ 13 := Nat.le_trans List.countP_le_length (Nat.le_trans (List.length_take_le' _ _) ho)
    have hnext : (o.take (i + 1)).countP (ltK key) = (o.take i).countP (ltK key) + (if ltK key o[i] = true then 1 else 0) := by
      rw [List.take_add_one, List.getElem?_eq_getElem hlt, List.countP_append]
      simp [List.countP_cons]
    have hgo := ih (i + 1) (by omega) (by omega) k (by omega)
    rw [hnext] at hgo
    rw [BP.lamplighterlaw15_IndexPlaces.l0, if_pos (by rw [List.length_map]; omega), if_pos (by omega), BP.wrap_s hlt (by unfold maxLen; omega)]
    by_cases hb : ltK key o[i] = true
    · rw [if_pos hb] at hgo
      rw [hg] at hb
      rw [if_pos (show Op.bytesLess (BP.rd_T53 (o.map BP.ofP) (i : Int)).f0.toList key.toList = true from hb), w64_id (by omega) (by omega)]
      exact hgo
    · rw [if_neg hb] at hgo
      rw [hg] at hb
      rw [if_neg (show ¬ Op.bytesLess (BP.rd_T53 (o.map BP.ofP) (i : Int)).f0.toList key.toList = true from hb)]
      exact hgo
theorem places_j1 (key : ByteArray) (o : List KV) (p1 : Int) (p2 : Bool) (s : Bool) (k : Nat) (hk : 300 ≤ k) (ho : o.length ≤ 13) (hs : ∀ x ∈ o, x.1.size ≤ 100 ∧ x.2.size ≤ 100) (hp : s = false → p1 = ((o.countP (ltK key) : Nat) : Int) ∧ p2 = o.any (keyIs key)) :
    BP.lamplighterlaw15_IndexPlaces.j1 (k + 1) key true (o.map BP.ofP) p1 p2 s = some true := by
  rw [BP.lamplighterlaw15_IndexPlaces.j1]
  cases s with
  | true => rw [if_pos rfl]
  | false =>
    rw [if_neg (by simp)]
    obtain ⟨rfl, rfl⟩ := hp rfl
    exact places_l0 key o ho hs o.length 0 (by omega) (by omega) k (by omega)
theorem places_j0 (ws : List Int) (a1 : Int) (key : ByteArray) (s : Bool) (k : Nat) (hk : 500 ≤ k) (hs : s = false → ws.length ≤ 1000) : BP.lamplighterlaw15_IndexPlaces.j0 (k + 1) ws a1 key true s = some true := by
  rw [BP.lamplighterlaw15_IndexPlaces.j0]
  cases s with
  | true => rw [if_pos rfl]
  | false =>
    rw [if_neg (by simp)]
    have hn := hs rfl
    have hn2 : ws.length ≤ 1000000000 := by omega
    obtain ⟨k, rfl⟩ : ∃ q, k = q + 1 := ⟨k - 1, by omega⟩
    unfold BP.amap_Own.f
    rw [if_pos hn2]
    simp only [Option.bind_some]
    generalize wrap64 a1 = b
    rw [nodeRead_f k (by omega) ws b hn2]
    simp only [Option.bind_some, PNode.flat]
    have hsl := nodeRead_slots_ ws b
    unfold AW.index_Place.f
    rw [if_pos ⟨hn2, by omega⟩]
    simp only [Option.bind_some]
    have hol := ownRead_len ws b
    have hsz : ∀ x ∈ ownRead ws b, x.1.size ≤ 100 ∧ x.2.size ≤ 100 := by
      intro x hx
      obtain ⟨_, s, _, rfl⟩ := ownOf_mem hx
      exact rec_size ws s
    have hsz0 : ∀ x ∈ ([] : List KV), x.1.size ≤ 100 ∧ x.2.size ≤ 100 := fun x hx => by cases hx
    by_cases hc : checkRead ws = 0
    rotate_left
    · have hown : ownAns ws b = ([], checkRead ws) := by unfold ownAns; rw [if_neg hc]
      rw [hown]
      simp only
      rw [if_neg hc]
      exact places_j1 key [] _ _ true k (by omega) (by simp) hsz0 (fun h => by cases h)
    obtain ⟨l, hl, ho⟩ := look_parts hc
    by_cases hin : l.contains b = true
    rotate_left
    · have hown : ownAns ws b = ([], 1) := by unfold ownAns leavesAns; rw [if_pos hc, hl, if_neg hin]
      rw [hown]
      simp only
      rw [if_neg (by omega)]
      exact places_j1 key [] _ _ true k (by omega) (by simp) hsz0 (fun h => by cases h)
    have hown : ownAns ws b = (ownRead ws b, 0) := by unfold ownAns leavesAns; rw [if_pos hc, hl, if_pos hin]
    rw [hown]
    simp only
    rw [if_pos trivial]
    refine places_j1 key (ownRead ws b) _ _ _ k (by omega) hol hsz (fun h => ?_)
    have hlen : (ownRead ws b).length = (nodeRead ws b).1.slots.length := by
      rw [List.length_map] at h
      have : ((ownRead ws b).length : Int) = ((nodeRead ws b).1.slots.length : Int) := by simpa using h
      omega
    have h1 := ownOf_len (nodeRead ws b).1.next (lowRead ws (nodeRead ws b).1.next).1 (recRead ws) (plainOf (nodeRead ws b).1.slots)
    have h2 := plainOf_len (nodeRead ws b).1.slots
    have hlen2 : (ownOf (nodeRead ws b).1.next (lowRead ws (nodeRead ws b).1.next).1 (recRead ws) (plainOf (nodeRead ws b).1.slots)).length = (nodeRead ws b).1.slots.length := hlen
    have hpl : plainOf (nodeRead ws b).1.slots = (nodeRead ws b).1.slots := plainOf_all (by omega)
    have hall : ownRead ws b = (nodeRead ws b).1.slots.map (fun s => ((recRead ws s).1.key, (recRead ws s).1.val)) := by
      unfold ownRead
      rw [hpl] at hlen2 ⊢
      exact ownOf_all hlen2
    obtain ⟨p, r, hpr⟩ := List.append_of_mem (List.contains_iff_mem.1 hin)
    rw [hpr] at ho
    obtain ⟨f2, last2, h6⟩ := leavesOk_suffix p _ _ ho
    have hso := leafOk_slots (leavesOk_cons h6).1
    rw [hpl] at hso
    have hpg := place_rise ws key (nodeRead ws b).1.slots 0 (slots_recs _ _ _ hso) (slots_rise _ _ _ hso).1
    rw [← hall, Nat.zero_add, Nat.zero_add] at hpg
    have hpo : placeOf ws (nodeRead ws b).1.slots key = ((((ownRead ws b).countP (ltK key) : Nat) : Int), (ownRead ws b).any (keyIs key)) := hpg
    rw [hpo]
    exact ⟨rfl, rfl⟩
theorem indexPlaces_pure (ws : List Int) (a1 : Int) (key : ByteArray) : ∃ k, BP.lamplighterlaw15_IndexPlaces.f k ws a1 key = some true := by
  obtain ⟨K, hK⟩ : ∃ K, 600 ≤ K := ⟨600, by omega⟩
  refine ⟨K + 1, ?_⟩
  unfold BP.lamplighterlaw15_IndexPlaces.f
  rw [awake15]
  simp only [Option.bind_some]
  by_cases h1 : (ws.length : Int) > 1000
  · rw [if_pos h1]; exact places_j0 ws a1 key true K (by omega) (fun h => by cases h)
  rw [if_neg h1]
  exact places_j0 ws a1 key _ K (by omega) (fun h => by omega)
end Go.Proofs.Ytliaemoomhfcdaa
