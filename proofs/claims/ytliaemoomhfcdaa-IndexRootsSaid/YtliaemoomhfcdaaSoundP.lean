/- What a level of an index is, and what a node that leads to the level below is: plain facts on the printed walks. -/
import Derived.Test.YtliaemoomhfcdaaISx3
import Derived.Test.YtliaemoomhfcdaaLowsF
namespace Go.Proofs.Ytliaemoomhfcdaa
open Go.RowKit Go.Proofs.YtliaemoomhfcdaaW.PrintWords
set_option linter.unusedVariables false
set_option linter.unusedSimpArgs false
set_option maxRecDepth 1000000

/-- These are the nodes of a level, from a block on. -/
def LCh (ws : List Int) (lv : Int) : Int → List Int → Prop
  | b, [] => b = 0
  | b, x :: t => x = b ∧ b ≠ 0 ∧ (nodeRead ws b).2 = 0 ∧ (nodeRead ws b).1.level = lv ∧ LCh ws lv (nodeRead ws b).1.next t
theorem has_f (l : List Int) (x : Int) (hn : l.length ≤ 1000000000) : SN.slices_Contains_int_int.f l x = some (l.contains x) := by
  unfold SN.slices_Contains_int_int.f; rw [if_pos hn]
theorem level_l0 (ws : List Int) (lv : Int) (hn : ws.length ≤ 1000000000) : ∀ (n : Nat) (out : List Int) (b : Int) (ok : Bool), LeavesOk ws n out → ∀ k, n < k →
    ∃ r, IS.index_level.l0 k ws b lv out ok = some r ∧ (r.2 = true → ∃ t, r.1 = out ++ t ∧ LCh ws lv b t ∧ r.1.Nodup ∧ (b = 0 → ok = true)) := by
  intro n
  induction n with
  | zero =>
    intro out b ok hL k hk
    obtain ⟨m, hm⟩ := hL.pos
    omega
  | succ n ih =>
    intro out b ok hL k hk
    obtain ⟨k, rfl⟩ : ∃ m, k = m + 1 := ⟨k - 1, by omega⟩
    have hlen : out.length ≤ ws.length := by have := hL.1; omega
    rw [IS.index_level.l0]
    by_cases h0 : b = 0
    · rw [if_pos h0]
      exact ⟨_, rfl, fun h => ⟨[], by simp, h0, hL.2.1, fun _ => h⟩⟩
    rw [if_neg h0, node_f ws b hn]
    simp only [Option.bind_some, PNode.flat]
    by_cases h1 : (nodeRead ws b).2 = 0
    rotate_left
    · rw [if_neg h1]; exact ⟨_, rfl, fun h => by cases h⟩
    rw [if_pos h1]
    by_cases h2 : (nodeRead ws b).1.level = lv
    rotate_left
    · rw [if_neg h2]; exact ⟨_, rfl, fun h => by cases h⟩
    rw [if_pos h2, has_f out b (by omega)]
    simp only [Option.bind_some]
    cases hc : out.contains b with
    | true => rw [if_pos rfl]; exact ⟨_, rfl, fun h => by cases h⟩
    | false =>
      rw [if_neg (by simp), if_pos (by omega)]
      obtain ⟨r, hr, hf⟩ := ih (out ++ [b]) (nodeRead ws b).1.next true (hL.snoc (nodeRead_range h1) hc) k (by omega)
      refine ⟨r, hr, fun h => ?_⟩
      obtain ⟨t, ht, hch, hnd, _⟩ := hf h
      exact ⟨b :: t, by rw [ht]; simp, ⟨rfl, h0, h1, h2, hch⟩, hnd, fun h => absurd h h0⟩
/-- A level's nodes: what the walk of it tells. -/
theorem level_f (ws : List Int) (b lv : Int) (hn : ws.length ≤ 1000000000) (k : Nat) (hk : ws.length / 16 + 1 < k) :
    ∃ r, IS.index_level.f k ws b lv = some r ∧ (r.2 = true → LCh ws lv b r.1 ∧ r.1.Nodup ∧ b ≠ 0) := by
  obtain ⟨r, hr, hf⟩ := level_l0 ws lv hn (ws.length / 16 + 1) [] b false ⟨by simp, List.nodup_nil, fun x hx => by cases hx⟩ k hk
  refine ⟨r, hr, fun h => ?_⟩
  obtain ⟨t, ht, hch, hnd, h0⟩ := hf h
  simp only [List.nil_append] at ht
  rw [ht] at hnd ⊢
  exact ⟨hch, hnd, fun h => by cases h0 h⟩
/-- Slots that lead to some nodes below, each from its own key on. -/
def LeadsOk (ws : List Int) (below : List Int) : Bool → ByteArray → List Int → Prop
  | _, _, [] => True
  | first, low, s :: t => (recRead ws s).2 = 0 ∧ (recRead ws s).1.kind = 2 ∧ (first = true → (recRead ws s).1.key.toList = low.toList) ∧ (first = false → ltS low (recRead ws s).1.key = true) ∧
    (recRead ws s).1.child ∈ below ∧ (lowRead ws (recRead ws s).1.child).2 = 0 ∧ (lowRead ws (recRead ws s).1.child).1.toList = (recRead ws s).1.key.toList ∧ LeadsOk ws below false (recRead ws s).1.key t
theorem leads_l0 (ws below : List Int) (high : ByteArray) (sl : List Int) (a b c d : Int) (sl2 : List Int) (hn : ws.length ≤ 1000000000) (hb : below.length ≤ 1000000000) (hs : sl.length ≤ 1000000000) :
    ∀ (n i : Nat) (low : ByteArray), sl.length - i = n → i ≤ sl.length → ∀ k, n < k →
    ∃ r, IS.index_leads.l0 k ws low below high sl (sl.length : Int) (i : Int) a b c d sl2 = some r ∧ (r = true → LeadsOk ws below (decide (i = 0)) low (sl.drop i) ∧ 0 < sl2.length) := by
  intro n
  induction n with
  | zero =>
    intro i low hd hi k hk
    obtain ⟨k, rfl⟩ : ∃ m, k = m + 1 := ⟨k - 1, by omega⟩
    rw [IS.index_leads.l0, if_neg (by omega), List.drop_eq_nil_of_le (by omega)]
    exact ⟨_, rfl, fun h => ⟨trivial, by have := of_decide_eq_true h; omega⟩⟩
  | succ n ih =>
    intro i low hd hi k hk
    obtain ⟨k, rfl⟩ : ∃ m, k = m + 1 := ⟨k - 1, by omega⟩
    have hlt : i < sl.length := by omega
    have hw : wrap64 ((i : Int) + 1) = ((i + 1 : Nat) : Int) := by rw [w64_id (by omega) (by omega)]; rfl
    have hdr : sl.drop i = rd sl (i : Int) :: sl.drop (i + 1) := drop_cons_ hlt
    rw [IS.index_leads.l0, if_pos (by omega), if_pos (by omega), if_pos (by omega), rec_f ws _ hn, hdr]
    generalize rd sl (i : Int) = s
    simp only [Option.bind_some]
    rw [low_f ws _ hn]
    simp only [Option.bind_some, has_f below _ hb, hw]
    have gih := fun low' => ih (i + 1) low' (by omega) (by omega) k (by omega)
    have bad : ∃ r, (some false : Option Bool) = some r ∧ (r = true → LeadsOk ws below (decide (i = 0)) low (s :: sl.drop (i + 1)) ∧ 0 < sl2.length) := ⟨false, rfl, fun h => by cases h⟩
    by_cases h1 : (recRead ws s).2 = 0
    rotate_left
    · rw [if_neg h1]; exact bad
    rw [if_pos h1]
    by_cases h2 : (recRead ws s).1.kind = 2
    rotate_left
    · rw [if_neg h2]; exact bad
    rw [if_pos h2]
    have last : (decide (i = 0) = true → (recRead ws s).1.key.toList = low.toList) → (decide (i = 0) = false → ltS low (recRead ws s).1.key = true) →
        ∃ r, (if below.contains (recRead ws s).1.child = true then (if (lowRead ws (recRead ws s).1.child).2 = 0 then (if (lowRead ws (recRead ws s).1.child).1.toList = (recRead ws s).1.key.toList then (IS.index_leads.l0 k ws (recRead ws s).1.key below high sl (sl.length : Int) ((i + 1 : Nat) : Int) a b c d sl2) else (some false)) else (some false)) else (some false)) = some r ∧ (r = true → LeadsOk ws below (decide (i = 0)) low (s :: sl.drop (i + 1)) ∧ 0 < sl2.length) := by
      intro f1 f2
      by_cases h3 : below.contains (recRead ws s).1.child = true
      rotate_left
      · rw [if_neg h3]; exact bad
      rw [if_pos h3]
      by_cases h4 : (lowRead ws (recRead ws s).1.child).2 = 0
      rotate_left
      · rw [if_neg h4]; exact bad
      rw [if_pos h4]
      by_cases h5 : (lowRead ws (recRead ws s).1.child).1.toList = (recRead ws s).1.key.toList
      rotate_left
      · rw [if_neg h5]; exact bad
      rw [if_pos h5]
      obtain ⟨r, hr, hf⟩ := gih (recRead ws s).1.key
      refine ⟨r, hr, fun h => ?_⟩
      obtain ⟨g1, g2⟩ := hf h
      rw [decide_eq_false (by omega)] at g1
      exact ⟨⟨h1, h2, f1, f2, by simpa using h3, h4, h5, g1⟩, g2⟩
    by_cases hi0 : i = 0
    · have e1 : ¬ ((i : Int) > 0) := by omega
      have e2 : (i : Int) = 0 := by omega
      simp only [if_neg e1, if_pos e2]
      by_cases h6 : (recRead ws s).1.key.toList = low.toList
      · simp only [if_pos h6]
        have g := last (fun _ => h6) (fun h => by simp [hi0] at h)
        by_cases h7 : c = 0
        · rw [if_pos h7]; exact g
        · rw [if_neg h7]
          by_cases h8 : Op.bytesLess (recRead ws s).1.key.toList high.toList = true
          · rw [if_pos h8]; exact g
          · rw [if_neg h8]; exact bad
      · simp only [if_neg h6]
        by_cases h7 : c = 0
        · rw [if_pos h7]; exact bad
        · rw [if_neg h7]
          by_cases h8 : Op.bytesLess (recRead ws s).1.key.toList high.toList = true
          · rw [if_pos h8]; exact bad
          · rw [if_neg h8]; exact bad
    · have e1 : (i : Int) > 0 := by omega
      have e2 : ¬ (i : Int) = 0 := by omega
      simp only [if_pos e1, if_neg e2]
      by_cases h6 : Op.bytesLess low.toList (recRead ws s).1.key.toList = true
      · simp only [if_pos h6]
        have g := last (fun h => absurd (of_decide_eq_true h) hi0) (fun _ => h6)
        by_cases h7 : c = 0
        · rw [if_pos h7]; exact g
        · rw [if_neg h7]
          by_cases h8 : Op.bytesLess (recRead ws s).1.key.toList high.toList = true
          · rw [if_pos h8]; exact g
          · rw [if_neg h8]; exact bad
      · simp only [if_neg h6]
        by_cases h7 : c = 0
        · rw [if_pos h7]; exact bad
        · rw [if_neg h7]
          by_cases h8 : Op.bytesLess (recRead ws s).1.key.toList high.toList = true
          · rw [if_pos h8]; exact bad
          · rw [if_neg h8]; exact bad
/-- A node that leads: what the walk of it tells. -/
theorem leads_f (ws : List Int) (x : PNode) (low : ByteArray) (below : List Int) (hn : ws.length ≤ 1000000000) (hb : below.length ≤ 1000000000) (hs : x.slots.length ≤ 13) (k : Nat) (hk : 14 ≤ k) :
    ∃ r, IS.index_leads.f k ws x.level x.turn x.next x.low x.slots low below = some r ∧ (r = true → LeadsOk ws below true low x.slots ∧ x.slots ≠ []) := by
  unfold IS.index_leads.f
  rw [low_f ws _ hn]
  simp only [Option.bind_some]
  obtain ⟨r, hr, hf⟩ := leads_l0 ws below (lowRead ws x.next).1 x.slots x.level x.turn x.next x.low x.slots hn hb (by omega) x.slots.length 0 low (by omega) (by omega) k (by omega)
  refine ⟨r, hr, fun h => ?_⟩
  obtain ⟨g1, g2⟩ := hf h
  exact ⟨g1, fun h => by rw [h] at g2; simp at g2⟩
/-- A level's nodes lead to some below, and rise. -/
def LevOk (ws : List Int) (next : List Int) : Bool → ByteArray → List Int → Prop
  | _, _, [] => True
  | first, last, b :: t => (lowRead ws b).2 = 0 ∧ (first = true → (nodeRead ws b).1.low = 0) ∧ (first = false → ltS last (lowRead ws b).1 = true) ∧
    LeadsOk ws next true (lowRead ws b).1 (nodeRead ws b).1.slots ∧ (nodeRead ws b).1.slots ≠ [] ∧ LevOk ws next false (lowRead ws b).1 t
/-- These are the nodes of a sound index's level, and there are such of each level below. -/
inductive Lv (ws : List Int) : Nat → List Int → Prop
  | zero (l : List Int) (h : leavesRead ws = some l) : Lv ws 0 l
  | succ (n : Nat) (l next : List Int) (c : Int) (h1 : LCh ws ((n + 1 : Nat) : Int) c l) (h2 : l.Nodup) (h3 : LevOk ws next true ⟨#[]⟩ l) (h4 : Lv ws n next) : Lv ws (n + 1) l
theorem LCh.ok {ws : List Int} {lv : Int} : ∀ {t : List Int} {b : Int}, LCh ws lv b t → ∀ x ∈ t, (nodeRead ws x).2 = 0 ∧ (nodeRead ws x).1.level = lv ∧ x ≠ 0
  | [], _, _, x, hx => by cases hx
  | y :: t, b, h, x, hx => by
    obtain ⟨rfl, h0, h1, h2, ht⟩ := h
    rcases List.mem_cons.1 hx with rfl | hx
    · exact ⟨h1, h2, h0⟩
    · exact LCh.ok ht x hx
theorem LCh.len {ws : List Int} {lv : Int} {t : List Int} {b : Int} (h : LCh ws lv b t) (hd : t.Nodup) : t.length ≤ ws.length / 16 :=
  nodup_le _ t hd (fun x hx => by have := nodeRead_range (LCh.ok h x hx).1; omega)
theorem leaves_f (ws : List Int) (l : List Int) (hn : ws.length ≤ 1000000000) (hl : leavesRead ws = some l) : LC.arena_Leaves.f ws = some (l, 0) := by
  unfold LC.arena_Leaves.f leavesAns; rw [if_pos hn, hl]
/-- The nodes below: what the walk of it tells. -/
theorem below_f (ws lv l : List Int) (hn : ws.length ≤ 1000) (hlv : leavesRead ws = some lv) (hl : l ≠ []) (n : Nat) (h15 : n ≤ 15) (k : Nat) (hk : 80 ≤ k) :
    ∃ r, IS.index_below.f k ws l ((n + 1 : Nat) : Int) = some r ∧ (r.2 = true → (n = 0 → r.1 = lv) ∧ (n ≠ 0 → ∃ c, LCh ws (n : Int) c r.1 ∧ r.1.Nodup ∧ r.1 ≠ [])) := by
  have hn2 : ws.length ≤ 1000000000 := by omega
  have hlen : 0 < l.length := List.length_pos_iff.2 hl
  unfold IS.index_below.f
  rw [if_pos (by omega), node_f ws _ hn2]
  simp only [Option.bind_some, PNode.flat]
  by_cases h0 : ((nodeRead ws (rd l 0)).1.slots.length : Int) = 0
  · rw [if_pos h0]; exact ⟨_, rfl, fun h => by cases h⟩
  rw [if_neg h0, if_pos (by omega), rec_f ws _ hn2]
  simp only [Option.bind_some]
  generalize (recRead ws (rd (nodeRead ws (rd l 0)).1.slots 0)) = x
  by_cases h1 : ((n + 1 : Nat) : Int) = 1
  · rw [if_pos h1, leaves_f ws lv hn2 hlv]
    simp only [Option.bind_some]
    have : n = 0 := by omega
    by_cases h2 : x.2 = 0
    · rw [if_pos h2]; exact ⟨_, rfl, fun h => ⟨fun _ => rfl, fun h => absurd this h⟩⟩
    · rw [if_neg h2]; exact ⟨_, rfl, fun h => by cases h⟩
  rw [if_neg h1]
  have hw : wrap64 (((n + 1 : Nat) : Int) - 1) = (n : Int) := by rw [w64_id (by omega) (by omega)]; omega
  rw [hw]
  obtain ⟨r, hr, hf⟩ := level_f ws x.1.child (n : Int) hn2 k (by omega)
  rw [hr]
  simp only [Option.bind_some]
  cases hb : r.2 with
  | false => rw [if_neg (by simp)]; exact ⟨_, rfl, fun h => by cases h⟩
  | true =>
    rw [if_pos rfl]
    refine ⟨_, rfl, fun h => ⟨fun h => absurd h (by omega), fun _ => ?_⟩⟩
    obtain ⟨g1, g2, g3⟩ := hf hb
    exact ⟨_, g1, g2, fun he => by simp only at he; rw [he] at g1; exact g3 g1⟩
/-- A walk of a level, and of all below: what it tells. -/
def Tells (ws : List Int) (n : Nat) (l : List Int) (ok : Bool) (r : Option Bool) : Prop := ∃ b, r = some b ∧ (b = true → ok = true ∧ Lv ws n l)
theorem sound_l1 (ws : List Int) (n : Nat) (h15 : n ≤ 15) (next l : List Int) (hn : ws.length ≤ 1000) (hnx : next.length ≤ 100) (hl : l.length ≤ 70) (hok : ∀ x ∈ l, (nodeRead ws x).2 = 0)
    (F : Nat) (hF : 80 ≤ F) (ih : ∀ ok k, F < k → Tells ws n next ok (IS.index_Sound.l0 k ws next ok (n : Int))) :
    ∀ (m i : Nat) (ok : Bool) (last : ByteArray), l.length - i = m → i ≤ l.length → ∀ k, F + m + 1 < k →
    ∃ b, IS.index_Sound.l1 k ws ok ((n + 1 : Nat) : Int) next last l (l.length : Int) (i : Int) = some b ∧ (b = true → ok = true ∧ Lv ws n next ∧ LevOk ws next (decide (i = 0)) last (l.drop i)) := by
  have hn2 : ws.length ≤ 1000000000 := by omega
  intro m
  induction m with
  | zero =>
    intro i ok last hd hi k hk
    obtain ⟨k, rfl⟩ : ∃ m, k = m + 1 := ⟨k - 1, by omega⟩
    have hw : wrap64 (((n + 1 : Nat) : Int) - 1) = (n : Int) := by rw [w64_id (by omega) (by omega)]; omega
    rw [IS.index_Sound.l1, if_neg (by omega), hw, List.drop_eq_nil_of_le (by omega)]
    obtain ⟨b, hb, hf⟩ := ih ok k (by omega)
    exact ⟨b, hb, fun h => ⟨(hf h).1, (hf h).2, trivial⟩⟩
  | succ m ihm =>
    intro i ok last hd hi k hk
    obtain ⟨k, rfl⟩ : ∃ m, k = m + 1 := ⟨k - 1, by omega⟩
    have hlt : i < l.length := by omega
    have hw : wrap64 ((i : Int) + 1) = ((i + 1 : Nat) : Int) := by rw [w64_id (by omega) (by omega)]; rfl
    have hdr : l.drop i = rd l (i : Int) :: l.drop (i + 1) := drop_cons_ hlt
    rw [IS.index_Sound.l1, if_pos (by omega), if_pos (by omega), if_pos (by omega), node_f ws _ hn2, hdr]
    generalize rd l (i : Int) = x
    simp only [Option.bind_some, PNode.flat]
    rw [low_f ws _ hn2]
    simp only [Option.bind_some, hw]
    have gih := fun ok' last' => ihm (i + 1) ok' last' (by omega) (by omega) k (by omega)
    have bad : ∃ b, IS.index_Sound.l1 k ws false ((n + 1 : Nat) : Int) next (lowRead ws x).1 l (l.length : Int) ((i + 1 : Nat) : Int) = some b ∧ (b = true → ok = true ∧ Lv ws n next ∧ LevOk ws next (decide (i = 0)) last (x :: l.drop (i + 1))) := by
      obtain ⟨b, hb, hf⟩ := gih false (lowRead ws x).1
      exact ⟨b, hb, fun h => by have := (hf h).1; cases this⟩
    cases hok1 : ok with
    | false => rw [if_neg (by simp)]; rw [hok1] at bad; exact bad
    | true =>
    rw [hok1] at bad
    simp only [true_and] at bad
    have bad := bad.imp fun b hb => (⟨hb.1, fun h => ⟨trivial, hb.2 h⟩⟩ : _ ∧ (b = true → True ∧ _))
    rw [if_pos rfl]
    by_cases h1 : (lowRead ws x).2 = 0
    rotate_left
    · rw [if_neg h1]; exact bad.imp fun b hb => ⟨hb.1, fun h => ⟨rfl, (hb.2 h).2⟩⟩
    rw [if_pos h1]
    obtain ⟨r, hr, hf⟩ := leads_f ws (nodeRead ws x).1 (lowRead ws x).1 next hn2 (by omega) (nodeRead_slots_ ws x) k (by omega)
    rw [hr]
    simp only [Option.bind_some]
    have go : (decide (i = 0) = true → (nodeRead ws x).1.low = 0) → (decide (i = 0) = false → ltS last (lowRead ws x).1 = true) →
        ∃ b, IS.index_Sound.l1 k ws r ((n + 1 : Nat) : Int) next (lowRead ws x).1 l (l.length : Int) ((i + 1 : Nat) : Int) = some b ∧ (b = true → True ∧ Lv ws n next ∧ LevOk ws next (decide (i = 0)) last (x :: l.drop (i + 1))) := by
      intro f1 f2
      obtain ⟨b, hb, hg⟩ := gih r (lowRead ws x).1
      refine ⟨b, hb, fun h => ?_⟩
      obtain ⟨g1, g2, g3⟩ := hg h
      rw [decide_eq_false (by omega)] at g3
      exact ⟨trivial, g2, h1, f1, f2, (hf g1).1, (hf g1).2, g3⟩
    by_cases hi0 : i = 0
    · have e1 : ¬ ((i : Int) > 0) := by omega
      have e2 : (i : Int) = 0 := by omega
      rw [if_pos e2]
      by_cases h2 : (nodeRead ws x).1.low = 0
      · rw [if_pos h2]; exact go (fun _ => h2) (fun h => by simp [hi0] at h)
      · rw [if_neg h2, if_neg e1]; exact bad
    · have e1 : (i : Int) > 0 := by omega
      have e2 : ¬ (i : Int) = 0 := by omega
      rw [if_neg e2, if_pos e1]
      by_cases h2 : Op.bytesLess last.toList (lowRead ws x).1.toList = true
      · rw [if_pos h2]; exact go (fun h => absurd (of_decide_eq_true h) hi0) (fun _ => h2)
      · rw [if_neg h2]; exact bad
theorem sound_l0 (ws lv : List Int) (hn : ws.length ≤ 1000) (hlv : leavesRead ws = some lv) : ∀ (n : Nat), n ≤ 15 → ∀ (l : List Int) (ok : Bool) (k : Nat), 80 + 75 * n < k →
    (n = 0 → l = lv) → (n ≠ 0 → ok = true → ∃ c, LCh ws (n : Int) c l ∧ l.Nodup ∧ l ≠ []) → Tells ws n l ok (IS.index_Sound.l0 k ws l ok (n : Int)) := by
  intro n
  induction n with
  | zero =>
    intro h15 l ok k hk h0 h1
    obtain ⟨k, rfl⟩ : ∃ m, k = m + 2 := ⟨k - 2, by omega⟩
    rw [h0 rfl]
    refine ⟨ok, ?_, fun h => ⟨h, .zero _ hlv⟩⟩
    rw [IS.index_Sound.l0]
    cases ok with
    | true => rw [if_pos rfl, IS.index_Sound.j2, if_neg (by simp)]
    | false => rw [if_neg (by simp), IS.index_Sound.j2, if_neg (by simp)]
  | succ n ih =>
    intro h15 l ok k hk h0 h1
    obtain ⟨k, rfl⟩ : ∃ m, k = m + 2 := ⟨k - 2, by omega⟩
    rw [IS.index_Sound.l0]
    cases ok with
    | false =>
      rw [if_neg (by simp), IS.index_Sound.j2, if_neg (by simp)]
      exact ⟨false, rfl, fun h => by cases h⟩
    | true =>
    obtain ⟨c, hc, hd, hne⟩ := h1 (by omega) rfl
    rw [if_pos rfl, IS.index_Sound.j2, if_pos (decide_eq_true (by omega))]
    obtain ⟨r, hr, hf⟩ := below_f ws lv l hn hlv hne n (by omega) k (by omega)
    rw [hr]
    simp only [Option.bind_some]
    cases hb : r.2 with
    | false => rw [if_neg (by simp)]; exact ⟨false, rfl, fun h => by cases h⟩
    | true =>
    rw [if_pos rfl]
    obtain ⟨g1, g2⟩ := hf hb
    have hll := LCh.len hc hd
    have hlvl := leaves_len hlv
    have hnx : r.1.length ≤ 100 := by
      by_cases hz : n = 0
      · rw [g1 hz]; omega
      · obtain ⟨c2, k1, k2, _⟩ := g2 hz
        have := LCh.len k1 k2
        omega
    obtain ⟨b, hb2, hg⟩ := sound_l1 ws n (by omega) r.1 l hn hnx (by omega) (fun x hx => (LCh.ok hc x hx).1) (80 + 75 * n) (by omega)
      (fun ok k hk => ih (by omega) r.1 ok k hk g1 (fun hz _ => g2 hz)) l.length 0 true ⟨#[]⟩ (by omega) (by omega) k (by omega)
    refine ⟨b, hb2, fun h => ⟨rfl, ?_⟩⟩
    obtain ⟨_, a2, a3⟩ := hg h
    exact .succ n l r.1 c hc hd a3 a2
end Go.Proofs.Ytliaemoomhfcdaa
