/- Where a look goes on, and ends, and a key's place: the reference's answers are the program's. -/
import Derived.Test.YtliaemoomhfcdaaITx3
namespace Go.Proofs.Ytliaemoomhfcdaa
open Go.RowKit Go.Proofs.YtliaemoomhfcdaaW.PrintWords
set_option linter.unusedVariables false
set_option linter.unusedSimpArgs false
set_option maxRecDepth 1000000

theorem awake15t : AW.lamplighterlaw15_awake.f = some true := by kernel_rfl
theorem rf_node (ws : List Int) (b : Int) (hn : ws.length ≤ 60000) : RF.lamplighterref09_Read.f ws b = some (PNode.flat (nodeRead ws b)) := by
  unfold RF.lamplighterref09_Read.f; rw [if_pos hn]
theorem rf_rec (ws : List Int) (b : Int) (hn : ws.length ≤ 60000) : RF.lamplighterref07_Read.f ws b = some (RF.PRec.flat (recRead ws b)) := by
  unfold RF.lamplighterref07_Read.f; rw [if_pos hn]
theorem rf_low (ws : List Int) (b : Int) (hn : ws.length ≤ 60000) : IT.lamplighterref11_Low.f ws b = some (lowRead ws b) := by
  unfold IT.lamplighterref11_Low.f lowRead lowOfP
  rw [rf_node ws b hn]
  simp only [Option.bind_some, PNode.flat]
  by_cases h : (nodeRead ws b).2 = 0
  · rw [if_pos h, if_pos h]
    by_cases h0 : (nodeRead ws b).1.low = 0
    · rw [if_pos h0, if_pos h0]
    · rw [if_neg h0, if_neg h0, rf_rec _ _ hn]
      simp only [Option.bind_some, RF.PRec.flat]
      by_cases h1 : (recRead ws (nodeRead ws b).1.low).2 = 0
      · rw [if_pos h1, if_pos h1]
      · rw [if_neg h1, if_neg h1]
  · rw [if_neg h, if_neg h]
/-- What is told of the child that was found. -/
def childEnd (ws : List Int) (key : ByteArray) (lv c : Int) : Int × Int :=
  if c = 0 then (0, 90) else if (fromRead ws c).2.2 = false then (0, 90) else if (fromRead ws c).1 ≠ lv - 1 then (0, 90) else if ltS key (fromRead ws c).2.1 = true then (0, 90) else (c, 0)
theorem from_yes {ws : List Int} {c : Int} (h : (nodeRead ws c).2 = 0) : fromRead ws c = ((nodeRead ws c).1.level, (lowRead ws c).1, ((lowRead ws c).2 == 0)) := by unfold fromRead; rw [if_pos h]
theorem from_no {ws : List Int} {c : Int} (h : ¬ (nodeRead ws c).2 = 0) : fromRead ws c = (0, ⟨#[]⟩, false) := by unfold fromRead; rw [if_neg h]
theorem refd_l0 (ws sl : List Int) (key : ByteArray) (lv tu ne lo : Int) (h0 : 0 ≤ lv) (h9 : lv ≤ 9) (hn : ws.length ≤ 60000) (hs : sl.length ≤ 1000000000) : ∀ (d i : Nat) (c : Int), sl.length - i = d → i ≤ sl.length → ∀ k, d < k →
    IT.lamplighterref15_Down.l0 k ws key c (i : Int) lv tu ne lo sl = some (childEnd ws key lv ((sl.drop i).foldl (childStep ws key) c)) := by
  intro d
  induction d with
  | zero =>
    intro i c hd hi k hk
    obtain ⟨k, rfl⟩ : ∃ m, k = m + 1 := ⟨k - 1, by omega⟩
    have e1 : wrap64 (lv - 1) = lv - 1 := by unfold wrap64; omega
    rw [IT.lamplighterref15_Down.l0, if_neg (by omega), rf_node _ _ hn, rf_low _ _ hn, List.drop_eq_nil_of_le (by omega), List.foldl_nil, e1]
    simp only [Option.bind_some, PNode.flat]
    unfold childEnd
    by_cases hc : c = 0
    · rw [if_pos hc, if_pos hc]
    rw [if_neg hc, if_neg hc]
    by_cases h1 : (nodeRead ws c).2 = 0
    · rw [if_pos h1, from_yes h1]
      dsimp only
      by_cases h3 : (lowRead ws c).2 = 0
      · have e3 : ((lowRead ws c).2 == 0) = true := by simpa using h3
        rw [e3, if_neg (show ¬ true = false by simp)]
        by_cases h2 : (nodeRead ws c).1.level = lv - 1
        · rw [if_pos h2, if_pos h3, if_neg (show ¬ (nodeRead ws c).1.level ≠ lv - 1 from fun f => f h2)]
          by_cases h4 : ltS key (lowRead ws c).1 = true
          · have h5 : Op.bytesLess key.toList (lowRead ws c).1.toList = true := h4
            rw [if_pos h5, if_pos h4]
          · have h5 : ¬ Op.bytesLess key.toList (lowRead ws c).1.toList = true := h4
            rw [if_neg h5, if_neg h4]
        · rw [if_neg h2, if_pos h2]
      · have e3 : ((lowRead ws c).2 == 0) = false := by simpa using h3
        rw [e3, if_pos rfl]
        by_cases h2 : (nodeRead ws c).1.level = lv - 1
        · rw [if_pos h2, if_neg h3]
        · rw [if_neg h2]
    · rw [if_neg h1, from_no h1, if_pos rfl]
  | succ d ih =>
    intro i c hd hi k hk
    obtain ⟨k, rfl⟩ : ∃ m, k = m + 1 := ⟨k - 1, by omega⟩
    have hil : i < sl.length := by omega
    have e3 : wrap64 ((i : Int) + 1) = ((i + 1 : Nat) : Int) := wrap_succ hil hs
    have hih := fun c => ih (i + 1) c (by omega) (by omega) k (by omega)
    rw [IT.lamplighterref15_Down.l0, if_pos (by omega), if_pos (by omega), rf_rec _ _ hn, e3, rd_drop hil, List.foldl_cons]
    simp only [Option.bind_some, RF.PRec.flat, hih]
    generalize rd sl (i : Int) = s
    unfold childStep
    by_cases h1 : (recRead ws s).2 = 0
    · rw [if_pos h1, if_pos h1]
      by_cases h2 : (recRead ws s).1.kind = 2
      · rw [if_pos h2, if_pos h2]
        by_cases h4 : ltS key (recRead ws s).1.key = true
        · have h5 : Op.bytesLess key.toList (recRead ws s).1.key.toList = true := h4
          rw [if_pos h5, if_pos h4]
        · have h5 : ¬ Op.bytesLess key.toList (recRead ws s).1.key.toList = true := h4
          rw [if_neg h5, if_neg h4]
      · rw [if_neg h2, if_neg h2]
    · rw [if_neg h1, if_neg h1]
theorem refd_j2 (ws : List Int) (b : Int) (key : ByteArray) (lv : Int) (x : PNode) (h0 : 0 ≤ x.level) (h9 : x.level ≤ 9) (hl : ¬ x.level < lv) (hn : ws.length ≤ 60000) (hs : x.slots.length ≤ 13) (k : Nat) (hk : 20 < k) :
    IT.lamplighterref15_Down.j2 k ws b key lv x.level x.turn x.next x.low x.slots = some (downChild ws b key lv x) := by
  obtain ⟨k, rfl⟩ : ∃ m, k = m + 1 := ⟨k - 1, by omega⟩
  rw [IT.lamplighterref15_Down.j2]
  unfold downChild
  by_cases h : x.level = lv
  · rw [if_pos h, if_neg (by omega)]
  · rw [if_neg h, if_pos (by omega)]
    have := refd_l0 ws x.slots key x.level x.turn x.next x.low h0 h9 hn (by omega) x.slots.length 0 0 (by omega) (by omega) k (by omega)
    exact this
theorem refd_f (k : Nat) (hk : 40 < k) (ws : List Int) (b : Int) (key : ByteArray) (lv : Int) (hn : ws.length ≤ 60000) : IT.lamplighterref15_Down.f k ws b key lv = some (downRead ws b key lv) := by
  obtain ⟨k, rfl⟩ : ∃ m, k = m + 2 := ⟨k - 2, by omega⟩
  unfold IT.lamplighterref15_Down.f downRead
  rw [rf_node _ _ hn]
  simp only [Option.bind_some, PNode.flat]
  by_cases h : (nodeRead ws b).2 = 0
  rotate_left
  · rw [if_neg h, if_pos h, IT.lamplighterref15_Down.j0, if_pos rfl]
  rw [if_pos h, if_neg (fun f => f h)]
  obtain ⟨p0, p9, _, _, p13⟩ := nodeRead_parts ws b h
  generalize (nodeRead ws b).1 = x at p0 p9 p13 ⊢
  by_cases hl : x.level < lv
  · rw [decide_eq_true hl, IT.lamplighterref15_Down.j0, if_pos rfl, if_pos hl]
  rw [decide_eq_false hl, IT.lamplighterref15_Down.j0, if_neg (show ¬ false = true by simp), if_neg hl]
  have hj2 := fun k hk => refd_j2 ws b key lv x p0 p9 hl hn p13 k hk
  have jb : ∀ q, IT.lamplighterref15_Down.j1 (k + 1) ws b key lv q true x.level x.turn x.next x.low x.slots = some (0, 90) := by intro q; rw [IT.lamplighterref15_Down.j1, if_pos rfl]
  unfold downSide
  by_cases h0 : x.next = 0
  · rw [if_pos h0, if_pos h0]; exact hj2 _ (by omega)
  rw [if_neg h0, if_neg h0, rf_node _ _ hn, rf_low _ _ hn]
  simp only [Option.bind_some, PNode.flat]
  by_cases h1 : x.next = b
  · rw [if_pos h1, if_pos h1, jb]
  rw [if_neg h1, if_neg h1]
  by_cases h2 : (nodeRead ws x.next).2 = 0
  rotate_left
  · rw [if_neg h2, jb, from_no h2, if_pos rfl]
  rw [if_pos h2, from_yes h2]
  dsimp only
  by_cases h3 : (lowRead ws x.next).2 = 0
  · have e3 : ((lowRead ws x.next).2 == 0) = true := by simpa using h3
    have e4 : ((lowRead ws x.next).2 != 0) = false := by rw [bne, e3]; rfl
    rw [e3, e4, if_neg (show ¬ true = false by simp)]
    by_cases h4 : (nodeRead ws x.next).1.level = x.level
    · rw [if_pos h4, if_neg (fun f => f h4), IT.lamplighterref15_Down.j1, if_neg (show ¬ false = true by simp)]
      by_cases h5 : ltS key (lowRead ws x.next).1 = true
      · have h6 : Op.bytesLess key.toList (lowRead ws x.next).1.toList = true := h5
        rw [if_pos h6, if_pos h5]; exact hj2 _ (by omega)
      · have h6 : ¬ Op.bytesLess key.toList (lowRead ws x.next).1.toList = true := h5
        rw [if_neg h6, if_neg h5]
    · rw [if_neg h4, jb, if_pos h4]
  · have e3 : ((lowRead ws x.next).2 == 0) = false := by simpa using h3
    have e4 : ((lowRead ws x.next).2 != 0) = true := by rw [bne, e3]; rfl
    rw [e3, e4, if_pos rfl]
    by_cases h4 : (nodeRead ws x.next).1.level = x.level
    · rw [if_pos h4, jb]
    · rw [if_neg h4, jb]
theorem reff_l0 (ws : List Int) (key : ByteArray) (lv : Int) (hn : ws.length ≤ 60000) : ∀ (d i : Nat) (b : Int), 600 - i = d → i ≤ 600 → ∀ k, 42 + d < k →
    IT.lamplighterref15_Find.l0 k ws b key lv (i : Int) = some (findGo ws key lv d b) := by
  intro d
  induction d with
  | zero =>
    intro i b hd hi k hk
    obtain ⟨k, rfl⟩ : ∃ m, k = m + 1 := ⟨k - 1, by omega⟩
    rw [IT.lamplighterref15_Find.l0, if_neg (by omega)]
    rfl
  | succ d ih =>
    intro i b hd hi k hk
    obtain ⟨k, rfl⟩ : ∃ m, k = m + 1 := ⟨k - 1, by omega⟩
    have e3 : wrap64 ((i : Int) + 1) = ((i + 1 : Nat) : Int) := wrap_succ (n := 600) (by omega) (by omega)
    have hih := fun b => ih (i + 1) b (by omega) (by omega) k (by omega)
    rw [IT.lamplighterref15_Find.l0, if_pos (by omega), refd_f k (by omega) ws b key lv hn, Option.bind_some, e3, hih, findGo_succ]
    by_cases h1 : (downRead ws b key lv).2 = 0
    · rw [if_pos h1, if_neg (show ¬ (downRead ws b key lv).2 ≠ 0 from fun f => f h1)]
      by_cases h2 : (downRead ws b key lv).1 = b
      · rw [if_pos h2, if_pos h2]
      · rw [if_neg h2, if_neg h2]
    · rw [if_neg h1, if_pos h1]
theorem reff_f (k : Nat) (hk : 700 < k) (ws : List Int) (b : Int) (key : ByteArray) (lv : Int) (hn : ws.length ≤ 60000) : IT.lamplighterref15_Find.f k ws b key lv = some (findRead ws b key lv) :=
  reff_l0 ws key lv hn 600 0 b (by omega) (by omega) k (by omega)
/-- The first slot behind a key, or how many there are. -/
def gtAt (ws : List Int) (key : ByteArray) (len : Int) : List Int → Int → Int
  | [], _ => len
  | s :: t, i => if (recRead ws s).2 = 0 then (if ltS key (recRead ws s).1.key = true then i else gtAt ws key len t (i + 1)) else gtAt ws key len t (i + 1)
/-- The first slot of a key. -/
def eqAt (ws : List Int) (key : ByteArray) : List Int → Int → Option Int
  | [], _ => none
  | s :: t, i => if (recRead ws s).2 = 0 then (if (recRead ws s).1.key.toList = key.toList then some i else eqAt ws key t (i + 1)) else eqAt ws key t (i + 1)
def placeEnd (r : Option Int) (x : Int) : Int × Bool := match r with | some j => (j, true) | none => (x, false)
theorem bl_flip (x y : List UInt8) : Op.bytesLess y x = !(Op.bytesLess x y || x == y) := by rw [le_flip, Bool.not_not]
theorem place_go (ws : List Int) (key : ByteArray) (len : Int) : ∀ (l : List Int) (i x : Int), 0 ≤ i → placeGo ws key len l i x = placeEnd (eqAt ws key l i) (if x < 0 then gtAt ws key len l i else x)
  | [], i, x, _ => by rfl
  | s :: t, i, x, hi => by
    have ih := fun x => place_go ws key len t (i + 1) x (by omega)
    rw [placeGo, eqAt, gtAt]
    by_cases h1 : (recRead ws s).2 = 0
    · rw [if_pos h1, if_pos h1, if_pos h1]
      have hf := bl_flip (recRead ws s).1.key.toList key.toList
      by_cases h2 : ltS (recRead ws s).1.key key = true
      · have h2' : Op.bytesLess (recRead ws s).1.key.toList key.toList = true := h2
        rw [h2'] at hf
        have h3 : ¬ ltS key (recRead ws s).1.key = true := by unfold ltS; rw [hf]; simp
        have h4 : ¬ (recRead ws s).1.key.toList = key.toList := by
          intro e
          have hr := bl_flip key.toList key.toList
          rw [e] at h2'
          rw [h2'] at hr
          simp at hr
        rw [if_pos h2, if_neg h3, if_neg h4, ih]
      · have h2' : Op.bytesLess (recRead ws s).1.key.toList key.toList = false := by simpa [ltS] using h2
        rw [if_neg h2]
        by_cases h4 : (recRead ws s).1.key.toList = key.toList
        · rw [if_pos h4, if_pos h4]
          rfl
        · have h3 : ltS key (recRead ws s).1.key = true := by
            unfold ltS
            rw [hf, h2', Bool.false_or]
            simpa using h4
          rw [if_neg h4, if_neg h4, if_pos h3, ih]
          by_cases hx : x < 0
          · rw [if_pos hx, if_neg (by omega)]
          · rw [if_neg hx, if_neg hx]
    · rw [if_neg h1, if_neg h1, if_neg h1, ih]
theorem rpl_l1 (ws sl : List Int) (key : ByteArray) (x a1 a2 a3 a4 : Int) (hn : ws.length ≤ 60000) (hs : sl.length ≤ 1000000000) : ∀ (d i : Nat), sl.length - i = d → i ≤ sl.length → ∀ k, d < k →
    IT.lamplighterref15_Place.l1 k ws key x (i : Int) a1 a2 a3 a4 sl = some (placeEnd (eqAt ws key (sl.drop i) i) x) := by
  intro d
  induction d with
  | zero =>
    intro i hd hi k hk
    obtain ⟨k, rfl⟩ : ∃ m, k = m + 1 := ⟨k - 1, by omega⟩
    rw [IT.lamplighterref15_Place.l1, if_neg (by omega), List.drop_eq_nil_of_le (by omega)]
    rfl
  | succ d ih =>
    intro i hd hi k hk
    obtain ⟨k, rfl⟩ : ∃ m, k = m + 1 := ⟨k - 1, by omega⟩
    have hil : i < sl.length := by omega
    have e3 : wrap64 ((i : Int) + 1) = ((i + 1 : Nat) : Int) := wrap_succ hil hs
    have hih := ih (i + 1) (by omega) (by omega) k (by omega)
    have e4 : ((i + 1 : Nat) : Int) = (i : Int) + 1 := by omega
    rw [IT.lamplighterref15_Place.l1, if_pos (by omega), if_pos (by omega), rf_rec _ _ hn, e3, rd_drop hil, eqAt, hih, e4]
    simp only [Option.bind_some, RF.PRec.flat]
    by_cases h1 : (recRead ws (rd sl (i : Int))).2 = 0
    · rw [if_pos h1, if_pos h1]
      by_cases h2 : (recRead ws (rd sl (i : Int))).1.key.toList = key.toList
      · rw [if_pos h2, if_pos h2]; rfl
      · rw [if_neg h2, if_neg h2]
    · rw [if_neg h1, if_neg h1]
theorem rpl_l0 (ws sl : List Int) (key : ByteArray) (a1 a2 a3 a4 : Int) (hn : ws.length ≤ 60000) (hs : sl.length ≤ 1000000000) : ∀ (j : Nat), j ≤ sl.length → ∀ k, j + sl.length + 2 < k →
    IT.lamplighterref15_Place.l0 k ws key (gtAt ws key sl.length (sl.drop j) j) ((j : Int) - 1) a1 a2 a3 a4 sl = some (placeEnd (eqAt ws key sl 0) (gtAt ws key sl.length sl 0)) := by
  intro j
  induction j with
  | zero =>
    intro hj k hk
    obtain ⟨k, rfl⟩ : ∃ m, k = m + 1 := ⟨k - 1, by omega⟩
    have := rpl_l1 ws sl key (gtAt ws key sl.length sl 0) a1 a2 a3 a4 hn hs sl.length 0 (by omega) (by omega) k (by omega)
    rw [IT.lamplighterref15_Place.l0, if_neg (by omega)]
    exact this
  | succ j ih =>
    intro hj k hk
    obtain ⟨k, rfl⟩ : ∃ m, k = m + 1 := ⟨k - 1, by omega⟩
    have hil : j < sl.length := by omega
    have e0 : ((j + 1 : Nat) : Int) - 1 = (j : Int) := by omega
    have e3 : wrap64 ((j : Int) - 1) = (j : Int) - 1 := by unfold wrap64; omega
    have hih := ih (by omega) k (by omega)
    have e4 : ((j + 1 : Nat) : Int) = (j : Int) + 1 := by omega
    rw [rd_drop hil, gtAt] at hih
    rw [IT.lamplighterref15_Place.l0, e0, if_pos (by omega), if_pos (by omega), if_pos (by omega), rf_rec _ _ hn, e3, e4]
    simp only [Option.bind_some, RF.PRec.flat]
    by_cases h1 : (recRead ws (rd sl (j : Int))).2 = 0
    · rw [if_pos h1] at hih ⊢
      by_cases h2 : ltS key (recRead ws (rd sl (j : Int))).1.key = true
      · have h5 : Op.bytesLess key.toList (recRead ws (rd sl (j : Int))).1.key.toList = true := h2
        rw [if_pos h2] at hih
        rw [if_pos h5, hih]
      · have h5 : ¬ Op.bytesLess key.toList (recRead ws (rd sl (j : Int))).1.key.toList = true := h2
        rw [if_neg h2] at hih
        rw [if_neg h5, hih]
    · rw [if_neg h1] at hih ⊢
      exact hih
theorem rpl_f (k : Nat) (ws sl : List Int) (key : ByteArray) (a1 a2 a3 a4 : Int) (hn : ws.length ≤ 60000) (hs : sl.length ≤ 1000000000) (hk : 2 * sl.length + 2 < k) :
    IT.lamplighterref15_Place.f k ws a1 a2 a3 a4 sl key = some (placeOf ws sl key) := by
  unfold IT.lamplighterref15_Place.f placeOf
  have e : wrap64 ((sl.length : Int) - 1) = (sl.length : Int) - 1 := by unfold wrap64; omega
  have h := rpl_l0 ws sl key a1 a2 a3 a4 hn hs sl.length (Nat.le_refl _) k (by omega)
  rw [List.drop_eq_nil_of_le (Nat.le_refl _)] at h
  rw [e, place_go ws key _ sl 0 (-1) (by omega), if_pos (show (-1 : Int) < 0 by omega)]
  exact h
theorem tells_j0 (K : Nat) (hK : 2000 ≤ K) (ws : List Int) (b : Int) (key : ByteArray) (lv a1 a2 a3 a4 : Int) (sl : List Int) (s : Bool) (hn : s = false → ws.length ≤ 1000 ∧ sl.length ≤ 100) :
    IT.lamplighterlaw15_IndexTells.j0 (K + 1) ws b key lv true s a1 a2 a3 a4 sl = some true := by
  rw [IT.lamplighterlaw15_IndexTells.j0]
  cases s with
  | true => rw [if_pos rfl]
  | false =>
    obtain ⟨n1, n2⟩ := hn rfl
    rw [if_neg (show ¬ false = true by simp), refd_f K (by omega) ws b key lv (by omega), reff_f K (by omega) ws b key lv (by omega), rpl_f K ws sl key a1 a2 a3 a4 (by omega) (by omega) (by omega)]
    unfold AW.index_Down.f AW.index_Find.f AW.index_Place.f
    rw [if_pos (show ws.length ≤ 1000000000 by omega), if_pos (show ws.length ≤ 1000000000 by omega), if_pos (show ws.length ≤ 1000000000 ∧ sl.length ≤ 1000000000 by omega)]
    simp
theorem indexTells_pure (ws : List Int) (b : Int) (key : ByteArray) (lv a1 a2 a3 a4 : Int) (sl : List Int) : ∃ k, IT.lamplighterlaw15_IndexTells.f k ws b key lv a1 a2 a3 a4 sl = some true := by
  obtain ⟨K, hK⟩ : ∃ K, 2000 ≤ K := ⟨2000, Nat.le_refl _⟩
  refine ⟨K + 1, ?_⟩
  unfold IT.lamplighterlaw15_IndexTells.f
  rw [awake15t, Option.bind_some]
  by_cases h1 : (ws.length : Int) > 1000
  · rw [if_pos h1]; exact tells_j0 K hK ws b key lv a1 a2 a3 a4 sl true (by simp)
  · rw [if_neg h1]
    by_cases h2 : (key.size : Int) > 100
    · rw [if_pos h2]; exact tells_j0 K hK ws b key lv a1 a2 a3 a4 sl true (by simp)
    · rw [if_neg h2]
      exact tells_j0 K hK ws b key lv a1 a2 a3 a4 sl _ (fun h => by have := of_decide_eq_false h; omega)
end Go.Proofs.Ytliaemoomhfcdaa
