/- Without the index, with the first leaf as root, an arena is sound, too: plain facts on one word turned. -/
import Derived.Test.YtliaemoomhfcdaaRootsP
namespace Go.Proofs.Ytliaemoomhfcdaa
open Go.RowKit Go.Proofs.YtliaemoomhfcdaaW.PrintWords
set_option linter.unusedVariables false
set_option linter.unusedSimpArgs false
set_option maxRecDepth 1000000

theorem block_bare (ws : List Int) (v : Int) (b : Nat) (h : b ≠ 0) : blockOf (ws.set 3 v) b = blockOf ws b := by
  unfold blockOf
  rw [List.drop_set_of_lt (by omega)]
theorem node_bare (ws : List Int) (v b : Int) (h : b ≠ 0) : nodeRead (ws.set 3 v) b = nodeRead ws b := by
  unfold nodeRead
  rw [List.length_set]
  by_cases h0 : b < 0
  · rw [if_pos h0, if_pos h0]
  · rw [if_neg h0, if_neg h0, block_bare ws v _ (by omega)]
theorem rec_bare (ws : List Int) (v b : Int) (h : b ≠ 0) : recRead (ws.set 3 v) b = recRead ws b := by
  unfold recRead
  rw [List.length_set]
  by_cases h0 : b < 0
  · rw [if_pos h0, if_pos h0]
  · rw [if_neg h0, if_neg h0, block_bare ws v _ (by omega)]
theorem leavesGo_bare (ws : List Int) (v : Int) : ∀ (n : Nat) (out : List Int) (b : Int), leavesGo (ws.set 3 v) n out b = leavesGo ws n out b
  | 0, out, b => by rw [leavesGo, leavesGo]
  | n + 1, out, b => by
    rw [leavesGo, leavesGo]
    by_cases h : b = 0
    · rw [if_pos h, if_pos h]
    · rw [if_neg h, if_neg h, node_bare ws v b h, leavesGo_bare ws v n]
theorem rd_bare (ws : List Int) (v : Int) (i : Nat) (h : i ≠ 3) : rd (ws.set 3 v) (i : Int) = rd ws (i : Int) := by
  simp [rd, List.getD_eq_getElem?_getD, List.getElem?_set_ne (Ne.symm h)]
theorem super_bare {ws : List Int} (h : (superRead ws).2.2 = 0) : superRead (ws.set 3 1) = (rd ws 1, 1, 0) := by
  unfold superRead at h ⊢
  rw [List.length_set]
  by_cases h1 : ws.length < 32
  · rw [if_pos h1] at h; cases h
  rw [if_neg h1] at h ⊢
  split at h
  · rename_i hh
    obtain ⟨a1, a2, a3, a4, a5⟩ := hh
    have e0 : rd (ws.set 3 1) 0 = rd ws 0 := rd_bare ws 1 0 (by omega)
    have e1 : rd (ws.set 3 1) 1 = rd ws 1 := rd_bare ws 1 1 (by omega)
    have e2 : rd (ws.set 3 1) 2 = rd ws 2 := rd_bare ws 1 2 (by omega)
    have e3 : rd (ws.set 3 1) 3 = 1 := by
      simp [rd, List.getD_eq_getElem?_getD, List.getElem?_set_self (show 3 < ws.length by omega)]
    have e4 : ((ws.set 3 1).take 16).drop 4 = (ws.take 16).drop 4 := by
      rw [List.take_set, List.drop_set_of_lt (by omega)]
    have hm : superMay (rd ws 1) 1 = true := by
      unfold superMay at a3 ⊢
      simp only [Bool.and_eq_true, decide_eq_true_eq] at a3 ⊢
      omega
    rw [e0, e1, e2, e3, e4, if_pos ⟨a1, a2, hm, a4, a5⟩]
  · cases h
theorem leaves_bare {ws : List Int} (h : (superRead ws).2.2 = 0) : leavesRead (ws.set 3 1) = leavesRead ws := by
  unfold leavesRead
  rw [super_bare h, List.length_set, if_pos rfl, if_pos h, leavesGo_bare]
theorem plain_from_mem : ∀ (l : List Int) (p x : Int), x ∈ plainFrom p l → x ∈ l
  | [], _, _, h => by cases h
  | y :: t, p, x, h => by
    rw [plainFrom] at h
    split at h
    · exact List.mem_cons_of_mem _ (plain_from_mem t _ _ h)
    · rcases List.mem_cons.1 h with rfl | h
      · exact List.mem_cons_self
      · exact List.mem_cons_of_mem _ (plain_from_mem t _ _ h)
theorem plain_mem : ∀ (l : List Int) (x : Int), x ∈ plainOf l → x ∈ l
  | [], _, h => by cases h
  | y :: t, x, h => by
    rw [plainOf] at h
    rcases List.mem_cons.1 h with rfl | h
    · exact List.mem_cons_self
    · exact List.mem_cons_of_mem _ (plain_from_mem t _ _ h)
theorem slots_ne {ws : List Int} {b : Int} (h : (nodeRead ws b).2 = 0) : ∀ s ∈ (nodeRead ws b).1.slots, s ≠ 0 := by
  obtain ⟨_, _, h1, h2, _⟩ := nodeRead_ok h
  intro s hs he
  rw [h1] at hs
  unfold PNode.ok nodeOk at h2
  simp only [Bool.and_eq_true, Bool.not_eq_true', decide_eq_true_eq] at h2
  have h3 := h2.2
  rw [List.any_eq_false] at h3
  have := h3 s hs
  simp [noSlot, he] at this
theorem slotsOk_bare (ws : List Int) (v : Int) (low : ByteArray) : ∀ (l : List Int) (f : Bool) (last : ByteArray), (∀ s ∈ l, s ≠ 0) → slotsOk (ws.set 3 v) low f last l = slotsOk ws low f last l
  | [], _, _, _ => rfl
  | s :: t, f, last, h => by
    have hs := rec_bare ws v s (h s List.mem_cons_self)
    rw [slotsOk, slotsOk, hs, slotsOk_bare ws v low t _ _ (fun x hx => h x (List.mem_cons_of_mem _ hx))]
    unfold slotOk
    rw [hs]
theorem lowOfP_bare (ws : List Int) (v x : Int) : lowOfP (ws.set 3 v) x = lowOfP ws x := by
  unfold lowOfP
  by_cases h : x = 0
  · rw [if_pos h, if_pos h]
  · rw [if_neg h, if_neg h, rec_bare ws v x h]
theorem leavesOk_bare (ws : List Int) (v : Int) : ∀ (l : List Int) (f : Bool) (last : ByteArray), (∀ b ∈ l, b ≠ 0) → leavesOk ws f last l = true → leavesOk (ws.set 3 v) f last l = true
  | [], _, _, _, _ => rfl
  | b :: t, f, last, h, ho => by
    obtain ⟨h1, h2⟩ := leavesOk_cons ho
    have hb := node_bare ws v b (h b List.mem_cons_self)
    have hok := (leafOk_parts h1).1
    have hl : leafOk (ws.set 3 v) f last b = leafOk ws f last b := by
      unfold leafOk lowsOk
      rw [hb, lowOfP_bare, slotsOk_bare ws v _ _ _ _ (fun s hs => slots_ne hok s (plain_mem _ s hs))]
    rw [leavesOk, hl, h1, Bool.true_and, hb, lowOfP_bare]
    exact leavesOk_bare ws v t _ _ (fun x hx => h x (List.mem_cons_of_mem _ hx)) h2
/-- An arena that is sound has the first leaf, from no key on. -/
theorem leaf1 {ws l : List Int} (hl : leavesRead ws = some l) (ho : leavesOk ws true ⟨#[]⟩ l = true) : l ≠ [] ∧ 1 ∈ l ∧ (nodeRead ws 1).2 = 0 ∧ (nodeRead ws 1).1.level = 0 ∧ lowRead ws 1 = (⟨#[]⟩, 0) := by
  have hc := leaves_ch hl
  cases l with
  | nil => exact absurd hc (by simp [Ch])
  | cons x t =>
    have hx := hc.1
    subst hx
    obtain ⟨h1, _⟩ := leavesOk_cons ho
    obtain ⟨a1, a2, a3⟩ := leafOk_parts h1
    refine ⟨by simp, List.mem_cons_self, a1, hc.2.2.2.1, ?_⟩
    rw [lowRead_at a1]
    unfold lowsOk at a3
    rw [if_pos rfl] at a3
    rw [of_decide_eq_true a3]
    rfl
theorem ltS_nil (key : ByteArray) : ltS key ⟨#[]⟩ = false := by
  have h : (⟨#[]⟩ : ByteArray).toList = [] := by kernel_rfl
  unfold ltS
  rw [h]
  cases key.toList <;> rfl
/-- What the walk of an index tells. -/
theorem sound_f (ws : List Int) (hn : ws.length ≤ 1000) : ∃ b, IS.index_Sound.f 1000 ws = some b ∧
    (b = true → checkRead ws = 0 ∧ ((superRead ws).2.1 = 1 ∨ ∃ (n : Nat) (l : List Int), Lv ws n l ∧ LCh ws (n : Int) (superRead ws).2.1 l ∧ l ≠ [] ∧ n ≠ 0)) := by
  have hn2 : ws.length ≤ 1000000000 := by omega
  unfold IS.index_Sound.f LC.arena_Check.f
  rw [if_pos hn2]
  simp only [Option.bind_some]
  by_cases hc : checkRead ws = 0
  rotate_left
  · rw [if_neg hc]; exact ⟨_, rfl, fun h => by cases h⟩
  rw [if_pos hc]
  obtain ⟨lv, hlv, ho⟩ := look_parts hc
  unfold SN.super_Read.f
  rw [if_pos hn2]
  simp only [Option.bind_some]
  rw [node_f ws _ hn2]
  simp only [Option.bind_some, PNode.flat]
  have one : ∃ b, (some ((superRead ws).2.1 == 1) : Option Bool) = some b ∧ (b = true → checkRead ws = 0 ∧ ((superRead ws).2.1 = 1 ∨ ∃ (n : Nat) (l : List Int), Lv ws n l ∧ LCh ws (n : Int) (superRead ws).2.1 l ∧ l ≠ [] ∧ n ≠ 0)) :=
    ⟨_, rfl, fun h => ⟨hc, .inl (beq_iff_eq.mp h)⟩⟩
  by_cases h1 : (nodeRead ws (superRead ws).2.1).2 = 0
  rotate_left
  · rw [if_neg h1, IS.index_Sound.j0, if_pos rfl]; exact one
  rw [if_pos h1, IS.index_Sound.j0]
  cases hz : ((nodeRead ws (superRead ws).2.1).1.level == 0) with
  | true => rw [if_pos rfl]; exact one
  | false =>
    rw [if_neg (by simp)]
    have hz2 : (nodeRead ws (superRead ws).2.1).1.level ≠ 0 := by simpa using hz
    obtain ⟨p1, p2, _⟩ := nodeRead_parts ws _ h1
    obtain ⟨n, hnn⟩ : ∃ n : Nat, (nodeRead ws (superRead ws).2.1).1.level = (n : Int) := ⟨_, (Int.toNat_of_nonneg p1).symm⟩
    rw [hnn] at p1 p2 hz2 ⊢
    obtain ⟨r, hr, hf⟩ := level_f ws (superRead ws).2.1 (n : Int) hn2 999 (by omega)
    rw [hr]
    simp only [Option.bind_some]
    have hne : r.2 = true → r.1 ≠ [] := fun h he => by
      obtain ⟨g1, _, g3⟩ := hf h
      rw [he] at g1
      exact g3 g1
    obtain ⟨b, hb, hg⟩ := sound_l0 ws lv hn hlv n (by omega) r.1 r.2 999 (by omega) (fun h => absurd h (by omega)) (fun _ h => ⟨_, (hf h).1, (hf h).2.1, hne h⟩)
    exact ⟨b, hb, fun h => ⟨hc, .inr ⟨n, r.1, (hg h).2, (hf (hg h).1).1, hne (hg h).1, by omega⟩⟩⟩
theorem sound_bare {ws : List Int} (hn : ws.length ≤ 1000) (hc : checkRead ws = 0) : IS.index_Sound.f 1000 (ws.set 3 1) = some true := by
  have hn2 : ws.length ≤ 1000000000 := by omega
  obtain ⟨l, hl, ho⟩ := look_parts hc
  have hs : (superRead ws).2.2 = 0 := by
    unfold leavesRead at hl
    split at hl
    · assumption
    · cases hl
  have hl2 : leavesRead (ws.set 3 1) = some l := (leaves_bare hs).trans hl
  have ho2 := leavesOk_bare ws 1 l true ⟨#[]⟩ (fun b hb => (Ch.ok (leaves_ch hl) b hb).2.2) ho
  have hc2 : checkRead (ws.set 3 1) = 0 := by
    unfold checkRead lookRead
    simp [hl2, ho2]
  obtain ⟨_, _, k1, k2, _⟩ := leaf1 hl2 ho2
  unfold IS.index_Sound.f LC.arena_Check.f SN.super_Read.f
  rw [List.length_set, if_pos hn2, if_pos hn2, hc2, super_bare hs]
  simp only [Option.bind_some]
  rw [if_pos trivial, node_f _ _ (by rw [List.length_set]; exact hn2)]
  simp only [Option.bind_some, PNode.flat]
  rw [if_pos k1, k2, IS.index_Sound.j0, if_pos (by rfl)]
  rfl
/-- The look from a sound root and that from the first leaf end at one leaf. -/
theorem roots_find {ws : List Int} (key : ByteArray) (hn : ws.length ≤ 1000) (hc : checkRead ws = 0)
    (h : (superRead ws).2.1 = 1 ∨ ∃ (n : Nat) (l : List Int), Lv ws n l ∧ LCh ws (n : Int) (superRead ws).2.1 l ∧ l ≠ [] ∧ n ≠ 0) :
    (superRead ws).2.2 = 0 ∧ (findRead ws 1 key 0).2 = 0 ∧ findRead ws (superRead ws).2.1 key 0 = findRead ws 1 key 0 := by
  obtain ⟨lv, hl, ho⟩ := look_parts hc
  have hs : (superRead ws).2.2 = 0 := by
    unfold leavesRead at hl
    split at hl
    · assumption
    · cases hl
  have hlen := leaves_len hl
  obtain ⟨_, hm, k1, k2, k3⟩ := leaf1 hl ho
  have h1 : findRead ws 1 key 0 = (endOf ws key lv 0, 0) := by
    obtain ⟨rest, r1, r2, r3, r4⟩ := find_lv (key := key) hl ho (Lv.zero lv hl)
    have hr := nodup_le (ws.length / 16) _ r1 (fun x hx => by have := nodeRead_range (r2 x hx).1; omega)
    rw [List.length_append] at hr
    exact r4 1 ⟨hm, by rw [k3], by rw [k3]; exact ltS_nil key⟩ 600 (by omega)
  refine ⟨hs, by rw [h1], ?_⟩
  rcases h with h | ⟨n, l, hv, hch, hne, hn0⟩
  · rw [h]
  · rw [h1]
    obtain ⟨rest, r1, r2, r3, r4⟩ := find_lv (key := key) hl ho hv
    have hr := nodup_le (ws.length / 16) _ r1 (fun x hx => by have := nodeRead_range (r2 x hx).1; omega)
    rw [List.length_append] at hr
    cases l with
    | nil => exact absurd rfl hne
    | cons x t =>
      have hx := hch.1
      have hlow : lowRead ws x = (⟨#[]⟩, 0) := by
        cases hv with
        | zero => exact absurd rfl hn0
        | succ n l next c q1 q2 q3 q4 =>
          obtain ⟨o1, o2, _⟩ := q3
          have hb := (LCh.ok q1 x List.mem_cons_self).1
          rw [lowRead_at hb, o2 rfl]
          rfl
      rw [← hx]
      exact r4 x ⟨List.mem_cons_self, by rw [hlow], by rw [hlow]; exact ltS_nil key⟩ 600 (by omega)
end Go.Proofs.Ytliaemoomhfcdaa
