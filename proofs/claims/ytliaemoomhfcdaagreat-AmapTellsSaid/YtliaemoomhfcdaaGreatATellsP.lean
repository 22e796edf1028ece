/- Leaves' own pairs, all pairs, a key's value, and pairs with one and without one: the reference's answers are the program's. -/
import Derived.Test.YtliaemoomhfcdaaGreatATx3
namespace Go.Proofs.YtliaemoomhfcdaaGreat
open Go.RowKit Go.Proofs.YtliaemoomhfcdaaGreatW.PrintWords
set_option linter.unusedVariables false
set_option linter.unusedSimpArgs false
set_option maxRecDepth 1000000
namespace AT
abbrev PS := S45
theorem drop_rd {l : List PS} {i : Nat} (h : i < l.length) : l.drop i = rd_T45 l (i : Int) :: l.drop (i + 1) := by
  rw [List.drop_eq_getElem_cons h]
  unfold rd_T45
  simp [List.getD_eq_getElem?_getD, List.getElem?_eq_getElem h]
theorem wrap_s {i n : Nat} (h : i < n) (hn : n ≤ maxLen) : wrap64 ((i : Int) + 1) = ((i + 1 : Nat) : Int) := by
  unfold maxLen at hn
  rw [w64_id (by omega) (by omega)]; rfl
theorem drop_rdi {l : List Int} {i : Nat} (h : i < l.length) : l.drop i = rd l (i : Int) :: l.drop (i + 1) := drop_cons_ h
theorem short_l0 (l : List PS) (m : Int) (hn : l.length ≤ maxLen) : ∀ (n i : Nat), l.length - i = n → i ≤ l.length → ∀ k, n < k → ∃ r, lamplighterref12_Short.l0 k l m (i : Int) = some r ∧ (r = true → (l.length : Int) ≤ m) := by
  intro n
  induction n with
  | zero =>
    intro i hd hi k hk
    obtain ⟨k, rfl⟩ : ∃ q, k = q + 1 := ⟨k - 1, by omega⟩
    rw [lamplighterref12_Short.l0, if_neg (by omega)]
    exact ⟨_, rfl, fun h => of_decide_eq_true h⟩
  | succ n ih =>
    intro i hd hi k hk
    obtain ⟨k, rfl⟩ : ∃ q, k = q + 1 := ⟨k - 1, by omega⟩
    have hlt : i < l.length := by omega
    rw [lamplighterref12_Short.l0, if_pos (by omega), if_pos (by omega)]
    split
    · exact ⟨false, rfl, fun h => by cases h⟩
    · split
      · exact ⟨false, rfl, fun h => by cases h⟩
      · rw [wrap_s hlt hn]
        exact ih (i + 1) (by omega) (by omega) k (by omega)
theorem same_l0 (l : List PS) (hn : l.length ≤ maxLen) : ∀ (n i : Nat), l.length - i = n → i ≤ l.length → ∀ k, n < k → lamplighterref12_Same.l0 k l l (i : Int) = some true := by
  intro n
  induction n with
  | zero =>
    intro i hd hi k hk
    obtain ⟨k, rfl⟩ : ∃ q, k = q + 1 := ⟨k - 1, by omega⟩
    rw [lamplighterref12_Same.l0, if_neg (by omega)]
  | succ n ih =>
    intro i hd hi k hk
    obtain ⟨k, rfl⟩ : ∃ q, k = q + 1 := ⟨k - 1, by omega⟩
    have hlt : i < l.length := by omega
    rw [lamplighterref12_Same.l0, if_pos (by omega), if_pos (by omega), if_pos (by omega), if_neg (by simp), wrap_s hlt hn]
    exact ih (i + 1) (by omega) (by omega) k (by omega)
theorem same_f (l : List PS) (hn : l.length ≤ maxLen) (k : Nat) (hk : l.length < k) : lamplighterref12_Same.f k l l = some true := by
  unfold lamplighterref12_Same.f
  rw [if_pos rfl]
  exact same_l0 l hn l.length 0 (by omega) (by omega) k hk
theorem getOf_cons (x : KV) (t : List KV) (key : ByteArray) : getOf (x :: t) key = if x.1.toList = key.toList then (x.2, true) else getOf t key := by
  unfold getOf
  rw [List.find?_cons]
  by_cases h : x.1.toList = key.toList
  · have e : keyIs key x = true := beq_iff_eq.2 h
    rw [e, if_pos h]
  · have e : keyIs key x = false := beq_eq_false_iff_ne.2 h
    rw [e, if_neg h]
theorem get_l0 (l : List PS) (key : ByteArray) (hn : l.length ≤ maxLen) : ∀ (n i : Nat), l.length - i = n → i ≤ l.length → ∀ k, n < k → lamplighterref12_Get.l0 k l key (i : Int) = some (getOf ((l.drop i).map toP) key) := by
  intro n
  induction n with
  | zero =>
    intro i hd hi k hk
    obtain ⟨k, rfl⟩ : ∃ q, k = q + 1 := ⟨k - 1, by omega⟩
    rw [lamplighterref12_Get.l0, if_neg (by omega), List.drop_eq_nil_of_le (by omega)]
    rfl
  | succ n ih =>
    intro i hd hi k hk
    obtain ⟨k, rfl⟩ : ∃ q, k = q + 1 := ⟨k - 1, by omega⟩
    have hlt : i < l.length := by omega
    rw [lamplighterref12_Get.l0, if_pos (by omega), if_pos (by omega), wrap_s hlt hn, ih (i + 1) (by omega) (by omega) k (by omega), drop_rd hlt, List.map_cons, getOf_cons]
    show (if (rd_T45 l (i : Int)).f0.toList = key.toList then _ else _) = some (if (rd_T45 l (i : Int)).f0.toList = key.toList then _ else _)
    by_cases h : (rd_T45 l (i : Int)).f0.toList = key.toList
    · rw [if_pos h, if_pos h]; rfl
    · rw [if_neg h, if_neg h]
theorem get_f (l : List PS) (key : ByteArray) (hn : l.length ≤ maxLen) (k : Nat) (hk : l.length < k) : lamplighterref12_Get.f k l key = some (getOf (l.map toP) key) :=
  get_l0 l key hn l.length 0 (by omega) (by omega) k hk
theorem without_cons (x : KV) (t : List KV) (key : ByteArray) : withoutOf (x :: t) key = if x.1.toList = key.toList then withoutOf t key else x :: withoutOf t key := by
  unfold withoutOf
  rw [List.filter_cons]
  by_cases h : x.1.toList = key.toList
  · have e : keyIs key x = true := beq_iff_eq.2 h
    rw [e, if_pos h]; rfl
  · have e : keyIs key x = false := beq_eq_false_iff_ne.2 h
    rw [e, if_neg h]; rfl
theorem without_l0 (l : List PS) (key : ByteArray) (hn : l.length ≤ 100000000) : ∀ (n i : Nat) (acc : List PS), acc.length ≤ i → l.length - i = n → i ≤ l.length → ∀ k, n < k →
    lamplighterref12_Without.l0 k l key acc (i : Int) = some (acc ++ (withoutOf ((l.drop i).map toP) key).map ofP) := by
  intro n
  induction n with
  | zero =>
    intro i acc ha hd hi k hk
    obtain ⟨k, rfl⟩ : ∃ q, k = q + 1 := ⟨k - 1, by omega⟩
    rw [lamplighterref12_Without.l0, if_neg (by omega), List.drop_eq_nil_of_le (by omega)]
    simp [withoutOf]
  | succ n ih =>
    intro i acc ha hd hi k hk
    obtain ⟨k, rfl⟩ : ∃ q, k = q + 1 := ⟨k - 1, by omega⟩
    have hlt : i < l.length := by omega
    rw [lamplighterref12_Without.l0, if_pos (by omega), if_pos (by omega), wrap_s hlt (by unfold maxLen; omega), drop_rd hlt, List.map_cons, without_cons]
    have ih1 := ih (i + 1) acc (by omega) (by omega) (by omega) k (by omega)
    have ih2 := fun p => ih (i + 1) (acc ++ [p]) (by simp; omega) (by omega) (by omega) k (by omega)
    by_cases h : (rd_T45 l (i : Int)).f0.toList = key.toList
    · rw [if_pos h, if_pos (show (toP (rd_T45 l (i : Int))).1.toList = key.toList from h), ih1]
    · rw [if_neg h, if_neg (show ¬ (toP (rd_T45 l (i : Int))).1.toList = key.toList from h), if_pos (by omega), ih2, List.map_cons, List.append_assoc]
      rfl
theorem without_f (l : List PS) (key : ByteArray) (hn : l.length ≤ 100000000) (k : Nat) (hk : l.length < k) : lamplighterref12_Without.f k l key = some ((withoutOf (l.map toP) key).map ofP) := by
  have := without_l0 l key hn l.length 0 [] (by simp) (by omega) (by omega) k hk
  exact this
/-- A pair put ahead of the first one behind it. -/
def insR (key val : ByteArray) : Bool → List KV → List KV
  | put, [] => if put = true then [] else [(key, val)]
  | put, x :: t => if ltS key x.1 = true then (if put = true then x :: insR key val true t else (key, val) :: x :: insR key val true t) else x :: insR key val put t
theorem insR_true (key val : ByteArray) : ∀ l, insR key val true l = l
  | [] => rfl
  | x :: t => by rw [insR, insR_true key val t]; simp
theorem insR_false (key val : ByteArray) : ∀ l, insR key val false l = insOf l (l.findIdx (keyGt key)) (key, val)
  | [] => rfl
  | x :: t => by
    rw [insR, insR_true, insR_false key val t, List.findIdx_cons]
    have e : keyGt key x = ltS key x.1 := rfl
    rw [e]
    cases ltS key x.1 with
    | true => simp [insOf]
    | false => simp [insOf]
theorem with_l0 (key val : ByteArray) (rest : List PS) (hn : rest.length ≤ 100000000) : ∀ (n i : Nat) (out : List PS) (put : Bool), ((put = false → out.length ≤ i) ∧ out.length ≤ i + 1) → rest.length - i = n → i ≤ rest.length → ∀ k, n < k →
    lamplighterref12_With.l0 k key val rest out put (i : Int) = some (out ++ (insR key val put ((rest.drop i).map toP)).map ofP) := by
  intro n
  induction n with
  | zero =>
    intro i out put ha hd hi k hk
    obtain ⟨k, rfl⟩ : ∃ q, k = q + 1 := ⟨k - 1, by omega⟩
    rw [lamplighterref12_With.l0, if_neg (by omega), List.drop_eq_nil_of_le (by omega)]
    cases put with
    | true => simp [insR]
    | false => rw [if_neg (show ¬ false = true by simp), if_pos (by have := ha.2; omega)]; simp [insR, ofP]
  | succ n ih =>
    intro i out put ha hd hi k hk
    obtain ⟨k, rfl⟩ : ∃ q, k = q + 1 := ⟨k - 1, by omega⟩
    have hlt : i < rest.length := by omega
    have ha2 := ha.2
    rw [lamplighterref12_With.l0, if_pos (by omega), if_pos (by omega), wrap_s hlt (by unfold maxLen; omega), drop_rd hlt, List.map_cons, insR]
    have ih2 := fun p => ih (i + 1) (out ++ [p]) put ⟨fun e => by have := ha.1 e; simp; omega, by simp; omega⟩ (by omega) (by omega) k (by omega)
    by_cases h : ltS key (toP (rd_T45 rest (i : Int))).1 = true
    · have h' : Op.bytesLess key.toList (rd_T45 rest (i : Int)).f0.toList = true := h
      rw [if_pos h', if_pos h]
      cases put with
      | true => rw [if_pos rfl, if_pos rfl, if_pos (by omega), ih2, List.map_cons, List.append_assoc]; rfl
      | false =>
        rw [if_neg (show ¬ false = true by simp), if_neg (show ¬ false = true by simp), if_pos (by omega), Option.bind_some, if_pos (by simp; omega)]
        have ho := ha.1 rfl
        rw [ih (i + 1) (out ++ [(⟨key, val⟩ : PS)] ++ [(⟨(rd_T45 rest (i : Int)).f0, (rd_T45 rest (i : Int)).f1⟩ : PS)]) true ⟨(fun e => by cases e), by simp; omega⟩ (by omega) (by omega) k (by omega)]
        simp [List.append_assoc, ofP, toP]
    · have h' : ¬ Op.bytesLess key.toList (rd_T45 rest (i : Int)).f0.toList = true := h
      rw [if_neg h', if_neg h, if_pos (by omega), ih2, List.map_cons, List.append_assoc]
      rfl
theorem insR_len (key val : ByteArray) : ∀ l put, (insR key val put l).length ≤ l.length + 1
  | [], put => by rw [insR]; split <;> simp
  | x :: t, put => by
    have h1 := insR_len key val t put
    rw [insR, insR_true]
    split
    · split <;> simp
    · simp; omega
theorem without_len_ (l : List KV) (key : ByteArray) : (withoutOf l key).length ≤ l.length := List.length_filter_le _ _
theorem map_toof (l : List KV) : (l.map ofP).map toP = l := map_to_of l
theorem with_f (l : List PS) (key val : ByteArray) (hn : l.length ≤ 100000000) (k : Nat) (hk : l.length < k) : lamplighterref12_With.f k l key val = some ((withOf (l.map toP) key val).map ofP) := by
  unfold lamplighterref12_With.f
  have hl := without_len_ (l.map toP) key
  rw [List.length_map] at hl
  rw [without_f l key hn k hk, Option.bind_some]
  have := with_l0 key val ((withoutOf (l.map toP) key).map ofP) (by rw [List.length_map]; omega) _ 0 [] false ⟨fun _ => by simp, by simp⟩ rfl (by omega) k (by rw [List.length_map]; omega)
  rw [List.drop_zero, map_toof, insR_false] at this
  exact this
/-- A leaf's own pairs, as the reference tells them. -/
def ownR (ne : Int) (high : ByteArray) (rc : Int → PRec × Int) : List Int → List KV
  | [] => []
  | s :: t => if ne = 0 then ((rc s).1.key, (rc s).1.val) :: ownR ne high rc t else if ltS (rc s).1.key high = true then ((rc s).1.key, (rc s).1.val) :: ownR ne high rc t else ownR ne high rc t
theorem ownR_len (ne : Int) (high : ByteArray) (rc : Int → PRec × Int) : ∀ l, (ownR ne high rc l).length ≤ l.length
  | [] => Nat.le_refl _
  | s :: t => by
    have := ownR_len ne high rc t
    rw [ownR]
    split
    · simp; omega
    · split
      · simp; omega
      · simp; omega
theorem rf_rec (ws : List Int) (b : Int) (hn : ws.length ≤ 60000) : RF.lamplighterref07_Read.f ws b = some (RF.PRec.flat (recRead ws b)) := by
  unfold RF.lamplighterref07_Read.f; rw [if_pos hn]
theorem own_l0 (ws pl : List Int) (high : ByteArray) (lv tu ne lo : Int) (sl : List Int) (hn : ws.length ≤ 60000) (hp : pl.length ≤ 1000000) : ∀ (n i : Nat) (out : List PS), out.length ≤ i → pl.length - i = n → i ≤ pl.length → ∀ k, n < k →
    lamplighterref12_own.l0 k ws pl high out (i : Int) lv tu ne lo sl = some (out ++ (ownR ne high (recRead ws) (pl.drop i)).map ofP) := by
  intro n
  induction n with
  | zero =>
    intro i out ha hd hi k hk
    obtain ⟨k, rfl⟩ : ∃ q, k = q + 1 := ⟨k - 1, by omega⟩
    rw [lamplighterref12_own.l0, if_neg (by omega), List.drop_eq_nil_of_le (by omega)]
    simp [ownR]
  | succ n ih =>
    intro i out ha hd hi k hk
    obtain ⟨k, rfl⟩ : ∃ q, k = q + 1 := ⟨k - 1, by omega⟩
    have hlt : i < pl.length := by omega
    have ih1 := ih (i + 1) out (by omega) (by omega) (by omega) k (by omega)
    have ih2 := fun p => ih (i + 1) (out ++ [p]) (by simp; omega) (by omega) (by omega) k (by omega)
    rw [lamplighterref12_own.l0, if_pos (by omega), if_pos (by omega), wrap_s hlt (by unfold maxLen; omega), rf_rec _ _ hn, drop_rdi hlt, ownR]
    simp only [Option.bind_some, RF.PRec.flat]
    generalize rd pl (i : Int) = s
    by_cases h0 : ne = 0
    · rw [if_pos h0, if_pos h0, if_pos (by omega), ih2, List.map_cons, List.append_assoc]
      rfl
    · rw [if_neg h0, if_neg h0]
      by_cases h1 : ltS (recRead ws s).1.key high = true
      · have h2 : Op.bytesLess (recRead ws s).1.key.toList high.toList = true := h1
        rw [if_pos h1, if_pos h2, if_pos (by omega), ih2, List.map_cons, List.append_assoc]
        rfl
      · have h2 : ¬ Op.bytesLess (recRead ws s).1.key.toList high.toList = true := h1
        rw [if_neg h1, if_neg h2, ih1]
def ownRR (ws : List Int) (b : Int) : List KV := ownR (nodeRead ws b).1.next (lowRead ws (nodeRead ws b).1.next).1 (recRead ws) (plainOf (nodeRead ws b).1.slots)
theorem ownRR_len (ws : List Int) (b : Int) : (ownRR ws b).length ≤ 13 := Nat.le_trans (ownR_len _ _ _ _) (Nat.le_trans (plain_le _) (nodeRead_slots_ ws b))
theorem own_f (ws : List Int) (b : Int) (hn : ws.length ≤ 60000) (k : Nat) (hk : 20 < k) : lamplighterref12_own.f k ws b = some ((ownRR ws b).map ofP) := by
  unfold lamplighterref12_own.f RF.lamplighterref09_Read.f
  have hs := nodeRead_slots_ ws b
  have hp := plain_le (nodeRead ws b).1.slots
  rw [if_pos hn]
  simp only [Option.bind_some, PNode.flat]
  unfold RK.lamplighterref06_Plain.f RK.lamplighterref11_Low.f
  rw [if_pos (by omega), if_pos hn]
  simp only [Option.bind_some]
  have := own_l0 ws (plainOf (nodeRead ws b).1.slots) (lowRead ws (nodeRead ws b).1.next).1 (nodeRead ws b).1.level (nodeRead ws b).1.turn (nodeRead ws b).1.next (nodeRead ws b).1.low (nodeRead ws b).1.slots hn (by omega) _ 0 [] (by simp) rfl (by omega) k (by omega)
  exact this
theorem ltS_tr {a b c : ByteArray} (h1 : ltS a b = true) (h2 : ltS b c = true) : ltS a c = true := by
  unfold ltS at *
  rw [bytesLess_eq, decide_eq_true_eq] at *
  exact List.lt_trans h1 h2
theorem rslots_parts {ws : List Int} {low : ByteArray} {p : Option ByteArray} {s : Int} {t : List Int} (h : rslots ws low p (s :: t) = true) : (∀ y, p = some y → ltS y (recRead ws s).1.key = true) ∧ rslots ws low (some (recRead ws s).1.key) t = true := by
  rw [rslots_cons] at h
  simp only [Bool.and_eq_true] at h
  refine ⟨?_, h.2⟩
  rintro y rfl
  exact h.1.2
theorem rs_above {ws : List Int} {low : ByteArray} : ∀ (l : List Int) (y : ByteArray), rslots ws low (some y) l = true → ∀ u ∈ l, ltS y (recRead ws u).1.key = true
  | [], _, _, u, hu => by cases hu
  | s :: t, y, h, u, hu => by
    obtain ⟨h1, h2⟩ := rslots_parts h
    rcases List.mem_cons.1 hu with rfl | hu
    · exact h1 y rfl
    · exact ltS_tr (h1 y rfl) (rs_above t _ h2 u hu)
theorem ownR_none {ne : Int} {high : ByteArray} {rc : Int → PRec × Int} (h0 : ¬ ne = 0) : ∀ (l : List Int), (∀ u ∈ l, ltS (rc u).1.key high = false) → ownR ne high rc l = []
  | [], _ => rfl
  | s :: t, h => by
    rw [ownR, if_neg h0, if_neg (by rw [h s (by simp)]; simp)]
    exact ownR_none h0 t (fun u hu => h u (by simp [hu]))
theorem own_eq {ws : List Int} {low : ByteArray} (ne : Int) (high : ByteArray) : ∀ (l : List Int) (p : Option ByteArray), rslots ws low p l = true → ownR ne high (recRead ws) l = ownOf ne high (recRead ws) l
  | [], _, _ => rfl
  | s :: t, p, h => by
    obtain ⟨_, h2⟩ := rslots_parts h
    have ih := own_eq ne high t _ h2
    rw [ownR, ownOf, ih]
    by_cases h0 : ne = 0
    · rw [if_pos h0, if_neg (fun e => e.1 h0)]
    · rw [if_neg h0]
      cases hl : ltS (recRead ws s).1.key high with
      | true => rw [if_pos rfl, if_neg (show ¬ (ne ≠ 0 ∧ true = false) by simp)]
      | false =>
        rw [if_neg (show ¬ false = true by simp), if_pos ⟨h0, rfl⟩, ← ih]
        refine ownR_none h0 t (fun u hu => ?_)
        cases hu2 : ltS (recRead ws u).1.key high with
        | false => rfl
        | true =>
          have := ltS_tr (rs_above t _ h2 u hu) hu2
          rw [hl] at this
          cases this
theorem leaves_mem {ws : List Int} : ∀ (l : List Int) (f : Bool) (last : ByteArray), rleaves ws f last l = true → ∀ b ∈ l, rslots ws (lowRead ws b).1 none (plainOf (nodeRead ws b).1.slots) = true
  | [], _, _, _, b, hb => by cases hb
  | x :: t, f, last, h, b, hb => by
    rw [rleaves_cons] at h
    simp only [Bool.and_eq_true] at h
    rcases List.mem_cons.1 hb with rfl | hb
    · exact h.1.1.2
    · exact leaves_mem t _ _ h.2 b hb
theorem check_zero {ws : List Int} (h : checkRead ws = 0) : (leavesAns ws).2 = 0 ∧ ∀ b ∈ (leavesAns ws).1, ownRR ws b = ownRead ws b := by
  rw [← rcheck_is] at h
  unfold rcheck at h
  by_cases h0 : (leavesAns ws).2 = 0
  · rw [if_pos h0] at h
    by_cases h1 : rleaves ws true ⟨#[]⟩ (leavesAns ws).1 = true
    · refine ⟨h0, fun b hb => ?_⟩
      exact own_eq _ _ _ _ (leaves_mem _ _ _ h1 b hb)
    · rw [if_neg h1] at h; cases h
  · rw [if_neg h0] at h; exact absurd h h0
theorem check_other {ws : List Int} (h : ¬ checkRead ws = 0) : checkRead ws = 110 := by
  unfold checkRead at h ⊢
  split
  · rename_i h1; rw [if_pos h1] at h; exact absurd rfl h
  · rfl
theorem leaves_ln (ws : List Int) : (leavesAns ws).1.length ≤ ws.length / 16 + 1 := by
  cases hl : leavesRead ws with
  | none => rw [leavesAns_none hl]; exact Nat.zero_le _
  | some l => rw [leavesAns_some hl]; exact leaves_len hl
theorem Own_f (ws : List Int) (b : Int) (hn : ws.length ≤ 60000) (k : Nat) (hk : 20 < k) : lamplighterref12_Own.f k ws b = some ((ownAns ws b).1.map ofP, (ownAns ws b).2) := by
  unfold lamplighterref12_Own.f RK.lamplighterref11_Check.f RK.lamplighterref11_Leaves.f RK.lamplighterref10_In.f ownAns
  rw [if_pos hn, if_pos hn, Option.bind_some, Option.bind_some]
  by_cases h0 : checkRead ws = 0
  · obtain ⟨_, hm⟩ := check_zero h0
    have hl := leaves_ln ws
    rw [if_pos h0, if_pos h0, if_pos (by omega), Option.bind_some]
    by_cases hc : (leavesAns ws).1.contains b = true
    · rw [if_pos hc, if_pos hc, own_f ws b hn k hk, Option.bind_some, hm b (by simpa using hc)]
    · rw [if_neg hc, if_neg hc]; rfl
  · rw [if_neg h0, if_neg h0, check_other h0]; rfl
theorem Pairs_l0 (ws l : List Int) (hn : ws.length ≤ 60000) (hl : l.length ≤ 100000) : ∀ (n i : Nat) (out : List PS), out.length ≤ 13 * i → l.length - i = n → i ≤ l.length → ∀ k, n + 21 < k →
    lamplighterref12_Pairs.l0 k ws l out (i : Int) = some (out ++ ((l.drop i).flatMap (ownRR ws)).map ofP, 0) := by
  intro n
  induction n with
  | zero =>
    intro i out ha hd hi k hk
    obtain ⟨k, rfl⟩ : ∃ q, k = q + 1 := ⟨k - 1, by omega⟩
    rw [lamplighterref12_Pairs.l0, if_neg (by omega), List.drop_eq_nil_of_le (by omega)]
    simp
  | succ n ih =>
    intro i out ha hd hi k hk
    obtain ⟨k, rfl⟩ : ∃ q, k = q + 1 := ⟨k - 1, by omega⟩
    have hlt : i < l.length := by omega
    have ho := ownRR_len ws (rd l (i : Int))
    rw [lamplighterref12_Pairs.l0, if_pos (by omega), if_pos (by omega), own_f ws _ hn k (by omega), Option.bind_some, if_pos (by rw [List.length_map]; omega), wrap_s hlt (by unfold maxLen; omega)]
    rw [ih (i + 1) _ (by rw [List.length_append, List.length_map]; omega) (by omega) (by omega) k (by omega), drop_rdi hlt, List.flatMap_cons, List.map_append, List.append_assoc]
theorem flat_congr {f g : Int → List KV} : ∀ (l : List Int), (∀ b ∈ l, f b = g b) → l.flatMap f = l.flatMap g
  | [], _ => rfl
  | x :: t, h => by rw [List.flatMap_cons, List.flatMap_cons, h x (by simp), flat_congr t (fun b hb => h b (by simp [hb]))]
theorem Pairs_f (ws : List Int) (hn : ws.length ≤ 60000) (k : Nat) (hk : ws.length + 30 < k) : lamplighterref12_Pairs.f k ws = some ((pairsAns ws).1.map ofP, (pairsAns ws).2) := by
  unfold lamplighterref12_Pairs.f RK.lamplighterref11_Check.f RK.lamplighterref11_Leaves.f pairsAns pairsRead
  rw [if_pos hn, if_pos hn, Option.bind_some, Option.bind_some]
  by_cases h0 : checkRead ws = 0
  · obtain ⟨_, hm⟩ := check_zero h0
    have hl := leaves_ln ws
    rw [if_pos h0, if_pos h0]
    have := Pairs_l0 ws (leavesAns ws).1 hn (by omega) _ 0 [] (by simp) rfl (by omega) k (by omega)
    rw [List.drop_zero, flat_congr _ hm] at this
    exact this
  · rw [if_neg h0, if_neg h0, check_other h0]; rfl
theorem own_small (ws : List Int) (b : Int) : (ownAns ws b).1.length ≤ 13 := by
  unfold ownAns
  split
  · rename_i h0
    split
    · rename_i hc
      rw [← (check_zero h0).2 b (by simpa using hc)]
      exact ownRR_len ws b
    · exact Nat.zero_le _
  · exact Nat.zero_le _
theorem flat_len (ws : List Int) : ∀ l : List Int, (l.flatMap (ownRR ws)).length ≤ 13 * l.length
  | [] => Nat.le_refl _
  | x :: t => by rw [List.flatMap_cons, List.length_append, List.length_cons]; have := ownRR_len ws x; have := flat_len ws t; omega
theorem pairs_small (ws : List Int) (hn : ws.length ≤ 1000) : (pairsAns ws).1.length ≤ 1000 := by
  unfold pairsAns pairsRead
  split
  · rename_i h0
    rw [← flat_congr _ (check_zero h0).2]
    have := flat_len ws (leavesAns ws).1
    have := leaves_ln ws
    show (List.flatMap _ _).length ≤ 1000
    omega
  · exact Nat.zero_le _
theorem tells_j0 (K : Nat) (hK : 5000 ≤ K) (ws : List Int) (b : Int) (l : List PS) (key val : ByteArray) (s : Bool) (hn : s = false → ws.length ≤ 1000 ∧ l.length ≤ 200) :
    lamplighterlaw12_AmapTells.j0 (K + 2) ws b l key val true s = some true := by
  rw [lamplighterlaw12_AmapTells.j0]
  cases s with
  | true => rw [if_pos rfl]
  | false =>
    obtain ⟨n1, n2⟩ := hn rfl
    have o1 := own_small ws b
    have o2 := pairs_small ws n1
    have w1 : (withOf (l.map toP) key val).length ≤ 201 := by
      have h := insR_len key val (withoutOf (l.map toP) key) false
      rw [insR_false] at h
      have h2 := without_len_ (l.map toP) key
      rw [List.length_map] at h2
      show (withOf (l.map toP) key val).length ≤ 201
      exact Nat.le_trans h (by omega)
    have w2 := without_len_ (l.map toP) key
    rw [List.length_map] at w2
    unfold amap_Own.f amap_Pairs.f amap_Get.f
    rw [if_neg (show ¬ false = true by simp), if_pos (show ws.length ≤ 1000000000 by omega), if_pos (show ws.length ≤ 1000000000 by omega), if_pos (show l.length ≤ 1000000000 by omega)]
    simp only [Option.bind_some]
    rw [Own_f ws b (by omega) _ (by omega), Pairs_f ws (by omega) _ (by omega), get_f l key (by unfold maxLen; omega) _ (by omega)]
    simp only [Option.bind_some]
    rw [same_f _ (by unfold maxLen; rw [List.length_map]; omega) _ (by rw [List.length_map]; omega), same_f _ (by unfold maxLen; rw [List.length_map]; omega) _ (by rw [List.length_map]; omega)]
    simp only [Option.bind_some, if_true]
    have e : ((getOf (l.map toP) key).2 == (getOf (l.map toP) key).2) = true := beq_self_eq_true _
    rw [e, lamplighterlaw12_AmapTells.j1, if_pos rfl, if_pos rfl]
    unfold amap_With.f amap_Without.f
    rw [if_pos (show l.length ≤ 100000000 by omega), if_pos (show l.length ≤ 100000000 by omega), with_f l key val (by omega) _ (by omega), without_f l key (by omega) _ (by omega)]
    simp only [Option.bind_some]
    rw [same_f _ (by unfold maxLen; rw [List.length_map]; omega) _ (by rw [List.length_map]; omega), same_f _ (by unfold maxLen; rw [List.length_map]; omega) _ (by rw [List.length_map]; omega)]
    simp
theorem amapTells_pure (ws : List Int) (b : Int) (l : List PS) (key val : ByteArray) (hl : l.length ≤ maxLen) : ∃ k, lamplighterlaw12_AmapTells.f k ws b l key val = some true := by
  obtain ⟨K, hK, hK2⟩ : ∃ K, 5000 ≤ K ∧ l.length ≤ K := ⟨5000 + l.length, by omega, by omega⟩
  refine ⟨K + 2, ?_⟩
  unfold lamplighterlaw12_AmapTells.f AZ.lamplighterlaw12_awake.f
  rw [Option.bind_some]
  have bad := tells_j0 K hK ws b l key val true (by simp)
  by_cases h1 : (ws.length : Int) > 1000
  · rw [if_pos h1]; exact bad
  · rw [if_neg h1]
    obtain ⟨r, hr, hs⟩ := short_l0 l 200 hl l.length 0 (by omega) (by omega) (K + 2) (by omega)
    have hr2 : lamplighterref12_Short.f (K + 2) l 200 = some r := hr
    rw [hr2, Option.bind_some]
    cases r with
    | false => rw [if_neg (show ¬ false = true by simp)]; exact bad
    | true =>
      have := hs rfl
      rw [if_pos rfl]
      by_cases h2 : (key.size : Int) > 100
      · rw [if_pos h2]; exact bad
      · rw [if_neg h2]
        exact tells_j0 K hK ws b l key val _ (fun _ => by omega)
end AT
end Go.Proofs.YtliaemoomhfcdaaGreat
