/- The walks of alloc's Free and Give, and of the reference's functions. -/
import Derived.Test.YtjidfnogmedgnaaWalks
namespace Go.Proofs.Ytjidfnogmedgnaa
open Go.RowKit
set_option maxHeartbeats 1000000
set_option maxRecDepth 100000

/-! ### Free -/
def boolCells (S : Nat → Bool) : Array Value := ((List.range 256).map fun i => .bool (S i)).toArray
theorem boolCells_get (S : Nat → Bool) (i : Nat) (h : i < 256) : (boolCells S)[i]? = some (.bool (S i)) := by simp [boolCells, h]
theorem boolCells_size (S : Nat → Bool) : (boolCells S).size = 256 := by simp [boolCells]
theorem boolCells_set (S : Nat → Bool) (k : Nat) (hk : k < 256) : (boolCells S).setIfInBounds k (.bool true) = boolCells (fun i => S i || i == k) := by
  apply Array.ext_getElem?
  intro i
  rw [Array.getElem?_setIfInBounds]
  by_cases hi : i < 256
  · rw [boolCells_get _ _ hi, boolCells_get _ _ hi, boolCells_size]
    by_cases he : k = i
    · subst he; simp [hi]
    · rw [if_neg he]
      have : (i == k) = false := by rw [beq_eq_false_iff_ne]; omega
      simp [this]
  · rw [Array.getElem?_eq_none (by rw [boolCells_size]; omega), Array.getElem?_eq_none (by rw [boolCells_size]; omega)]
    rw [boolCells_size]
    by_cases he : k = i
    · omega
    · rw [if_neg he]
theorem zeros_run (w : World) : (zeroValue 37).run Try.prog w = .ok (.agg (boolCells fun _ => false)) w := by kernel_rfl

/-- Which blocks are taken by the first ones of a list. -/
def takenBy (l : List Int) (i : Nat) : Bool := l.any fun x => x == (i : Int) && isBlock x
/-- The free ones below a number. -/
def freeTo (S : Nat → Bool) : Nat → List Int
  | 0 => []
  | k + 1 => if decide (0 < k) && !S k then freeTo S k ++ [(k : Int)] else freeTo S k
def freeOf (blocks : Int) (used : List Int) : List Int × Int :=
  if blocks < 1 ∨ 256 < blocks then ([], 1) else (freeTo (takenBy used) blocks.toNat, 0)

theorem takenBy_snoc (l : List Int) (k : Nat) (x : Int) (h : l[k]? = some x) (i : Nat) : takenBy (l.take (k + 1)) i = (takenBy (l.take k) i || (x == (i : Int) && isBlock x)) := by
  unfold takenBy
  rw [List.take_add_one, h, List.any_append]
  simp

theorem freeTo_len (S : Nat → Bool) (k : Nat) : (freeTo S k).length ≤ k := by
  induction k with
  | zero => simp [freeTo]
  | succ k ih =>
    rw [freeTo]
    split
    · simp; omega
    · omega

/-- What is told: a slice that reads so, and a number. -/
def One (w : World) (r : List Int × Int) (e : Ending) (w' : World) : Prop :=
  ∃ A n c, e = .returned (.tuple #[.slice A n c, .int .i64 r.2]) ∧ n ≤ c ∧ RI w' A n r.1 ∧ Below w.heap.size w w'

theorem free_any (blocks : Int) (A : Option Addr) (n c : Nat) (xs : List Int) (w : World) (h : RI w A n xs) (hn : n ≤ 1000000000) :
    Calls Try.prog 9 #[.int .i64 blocks, .slice A n c] w (One w (freeOf blocks xs)) := by
  have HR := Lib.hid h
  clear h
  by_cases h0 : blocks < 1
  · have HT := Lib.hid (show freeOf blocks xs = ([], 1) from by simp [freeOf, h0])
    go_enter Try.func9, Try.ntmps9
    go_wp2
    go_ret2
    exact ⟨none, 0, 0, by rw [HT.out]; rfl, Nat.le_refl _, by rw [HT.out]; exact RI.nil _, Below.refl _ _⟩
  by_cases h1 : 256 < blocks
  · have HT := Lib.hid (show freeOf blocks xs = ([], 1) from by simp [freeOf, h1])
    go_enter Try.func9, Try.ntmps9
    go_wp2
    go_ret2
    exact ⟨none, 0, 0, by rw [HT.out]; rfl, Nat.le_refl _, by rw [HT.out]; exact RI.nil _, Below.refl _ _⟩
  have HT := Lib.hid (show freeOf blocks xs = (freeTo (takenBy xs) blocks.toNat, 0) from by simp [freeOf, h0, h1])
  obtain ⟨m, rfl⟩ := Int.eq_ofNat_of_zero_le (show 0 ≤ blocks by omega)
  have hm0 : 1 ≤ m := by omega
  have hm1 : m ≤ 256 := by omega
  obtain ⟨i0, hi0, hz0, hz1, hz2⟩ := info_parts int_info
  go_enter Try.func9, Try.ntmps9
  have hz := zeros_run
  go_wp2
  clear hz
  go_loopw [18] (fun i wr => ∃ k : Nat, k ≤ n ∧ i = .int .i64 k ∧ Hid (wr.heap[w.heap.size]? = some (.cells (boolCells (takenBy (xs.take k))) 37 (0, 0))) ∧ Below w.heap.size w wr) (fun i _ => n - (intOf i).toNat)
  case atStart => exact ⟨0, by omega, rfl, Lib.hid (heap_alloc_new _ _), (Below.refl _ _).alloc (Nat.le_refl _) _⟩
  case round =>
    obtain ⟨k, hk, rfl, HB, hB⟩ := hrel
    by_cases hlt : k < n
    · obtain ⟨ad, x, rfl, hb, hx, hc⟩ := (HR.out.below hB).at_ hlt
      have HX := Lib.hid hx
      clear hx
      cases hbx : isBlock x with
      | false =>
        go_wp2_with fail
        refine (block_any x _).mono ?_
        rw [hbx]
        rintro e w1 ⟨rfl, rfl⟩
        go_wp2
        refine ⟨⟨k + 1, by omega, by go_num, Lib.hid ?_, hB⟩, by simp [intOf]; omega⟩
        rw [HB.out]
        congr 3
        funext i
        rw [takenBy_snoc xs k x HX.out, hbx]
        simp
      | true =>
        obtain ⟨j, rfl⟩ : ∃ j : Nat, x = (j : Int) := Int.eq_ofNat_of_zero_le (by simp [isBlock] at hbx; omega)
        have hj : j < 256 := by simp [isBlock] at hbx; omega
        have hcell : wr.cell? ⟨w.heap.size, j, none⟩ = some (.bool (takenBy (xs.take k) j)) := by
          rw [cell_of_row _ _ _ _ _ _ HB.out, boolCells_get _ _ hj]
        have hfr : wr.frozen? ⟨w.heap.size, j, none⟩ = false := frozen_of_row _ _ _ _ _ HB.out
        go_wp2_with fail
        refine (block_any _ _).mono ?_
        rw [hbx]
        rintro e w1 ⟨rfl, rfl⟩
        go_wp2
        refine ⟨⟨k + 1, by omega, by go_num, Lib.hid ?_, hB.setCell (Nat.le_refl _) _⟩, by simp [intOf]; omega⟩
        rw [heap_setCell_same _ _ _ _ _ _ HB.out, boolCells_set _ _ hj]
        congr 3
        funext i
        rw [takenBy_snoc xs k _ HX.out, hbx]
        congr 1
        rw [Bool.and_true, Bool.eq_iff_iff]
        simp only [beq_iff_eq]
        omega
    · obtain rfl : k = n := by omega
      have HB2 : Hid (wr.heap[w.heap.size]? = some (.cells (boolCells (takenBy xs)) 37 (0, 0))) := by
        have := HB.out
        rw [List.take_of_length_le (by rw [HR.out.len]; omega)] at this
        exact this
      clear HB
      have hszr : w.heap.size < wr.heap.size := by
        rcases Nat.lt_or_ge w.heap.size wr.heap.size with h | h
        · exact h
        · have := HB2.out; rw [Array.getElem?_eq_none h] at this; cases this
      obtain ⟨wo, rfl⟩ : ∃ wo : World, wo = wr := ⟨_, rfl⟩
      go_wp2
      go_loopw [4, 28] (fun v i wi => ∃ k : Nat, k ≤ m ∧ i = .int .i64 k ∧ wi.ownsRow wo.heap.size 3 1 v (freeTo (takenBy xs) k).length (ints (freeTo (takenBy xs) k)) ∧ Below wo.heap.size wo wi) (fun _ i _ => m - (intOf i).toNat)
      case atStart => exact ⟨0, by omega, rfl, ⟨by simp [freeTo], .inl ⟨rfl, rfl⟩⟩, Below.refl _ _⟩
      case round =>
        obtain ⟨k', hk', rfl, hown, hBi⟩ := hrel
        have HO := Lib.hid hown
        clear hown
        by_cases hlt2 : k' < m
        · have hcell : wr.cell? ⟨w.heap.size, k', none⟩ = some (.bool (takenBy xs k')) := by
            rw [hBi.cell hszr, cell_of_row _ _ _ _ _ _ HB2.out, boolCells_get _ _ (by omega)]
          have HL := Lib.hid (freeTo_len (takenBy xs) k')
          by_cases hk0 : 0 < k'
          · cases ht : takenBy xs k' with
            | true =>
              rw [ht] at hcell
              have HF := Lib.hid (show freeTo (takenBy xs) (k' + 1) = freeTo (takenBy xs) k' from by rw [freeTo, ht]; simp)
              clear ht
              go_wp2
              refine ⟨⟨k' + 1, by omega, by go_num, by rw [HF.out]; exact HO.out, hBi⟩, by simp [intOf]; omega⟩
            | false =>
              rw [ht] at hcell
              have HF := Lib.hid (show freeTo (takenBy xs) (k' + 1) = freeTo (takenBy xs) k' ++ [(k' : Int)] from by rw [freeTo, ht]; simp [hk0])
              clear ht
              go_wp2_with (first
                | (at_builtin
                   refine wpList_append_any _ rfl _ _ _ rfl wo.heap.size 3 i0 _ 1 8 Try.underlying22 hi0 hz0 hz1 hz2 rfl (by omega) _ _ _ rfl (HO.out.alloc _) _ (some ⟨wr.heap.size, 0, none⟩) 1 1 (ints [(k' : Int)]) rfl (Reads.of_own (World.ownsRow_lit (base := wr.heap.size) (e := 3) (size := 1) wr #[.int .i64 (k' : Int)] 1 (Nat.le_refl _) (by simp [maxLen]) rfl)) (ints_one _) (by have := HL.out; simp only [maxLen]; omega) (by have := HL.out; omega) (by have := hBi.size; simp; omega) ?_
                   intro v2 w2 hown2 hg2 hat2))
              refine ⟨⟨k' + 1, by omega, by go_num, ?_, (hBi.alloc hBi.size _).grown hg2 (hBi.alloc hBi.size _).size (fun g hg => own_ge HO.out hg)⟩, by simp [intOf]; omega⟩
              rw [HF.out, List.length_append]
              have e : ints (freeTo (takenBy xs) k' ++ [(k' : Int)]) = ints (freeTo (takenBy xs) k') ++ ints [(k' : Int)] := by simp
              rw [e]
              exact hown2
          · have HF := Lib.hid (show freeTo (takenBy xs) (k' + 1) = freeTo (takenBy xs) k' from by rw [freeTo]; simp [hk0])
            go_wp2
            refine ⟨⟨k' + 1, by omega, by go_num, by rw [HF.out]; exact HO.out, hBi⟩, by simp [intOf]; omega⟩
        · obtain rfl : k' = m := by omega
          go_wp2
          obtain ⟨A1, c1, rfl, hc1, hr1⟩ := own_cap HO.out
          go_ret2
          exact ⟨A1, _, c1, by rw [HT.out]; rfl, hc1, by rw [HT.out]; exact hr1, hB.next hBi⟩

/-! ### Insert -/
theorem below_setCells {B : Nat} {a : World} (g : Nat) (hg : B ≤ g) : ∀ (vs : List Value) (o : Nat) (w : World), Below B a w → Below B a (w.setCells g o vs)
  | [], _, _, h => h
  | v :: r, o, _, h => below_setCells g hg r (o + 1) _ (h.setCell (p := ⟨g, o, none⟩) hg v)
theorem size_setCells (g : Nat) : ∀ (vs : List Value) (o : Nat) (w : World), (w.setCells g o vs).heap.size = w.heap.size
  | [], _, _ => rfl
  | v :: r, o, w => by rw [World.setCells, size_setCells g r]; simp [World.setCell]

def insAt (xs : List Int) (i : Nat) (x : Int) : List Int := xs.take i ++ x :: xs.drop i
theorem insAt_get (xs : List Int) (i : Nat) (x : Int) (hi : i ≤ xs.length) (j : Nat) : (insAt xs i x)[j]? = if j < i then xs[j]? else if j = i then some x else xs[j - 1]? := by
  unfold insAt
  rw [List.getElem?_append, List.length_take, Nat.min_eq_left hi]
  by_cases h1 : j < i
  · simp [h1]
  · by_cases h2 : j = i
    · subst h2; simp
    · obtain ⟨d, rfl⟩ : ∃ d, j = i + 1 + d := ⟨j - i - 1, by omega⟩
      simp only [h1, h2, if_false]
      rw [show i + 1 + d - i = d + 1 from by omega, List.getElem?_cons_succ, List.getElem?_drop]
      congr 1
      omega
theorem insAt_len (xs : List Int) (i : Nat) (x : Int) (hi : i ≤ xs.length) : (insAt xs i x).length = xs.length + 1 := by
  unfold insAt
  simp; omega

theorem ri_of_cells {w : World} {g n : Nat} {l : List Int} (hl : l.length = n) (hg : g < w.heap.size) (h : ∀ (j : Nat) (x : Int), l[j]? = some x → w.cell? ⟨g, j, none⟩ = some (.int .i64 x)) : RI w (some ⟨g, 0, none⟩) n l := by
  refine ⟨by simp [hl], fun _ => ⟨_, rfl, hg, fun j u hu => ?_⟩⟩
  obtain ⟨x, hx, rfl⟩ := ints_get hu
  have hadd : (⟨g, 0, none⟩ : Addr).add j = ⟨g, j, none⟩ := by unfold Addr.add; split <;> simp_all
  rw [hadd]
  exact h j x hx

/-- What is told of an insertion. -/
def Ins (B : Nat) (w : World) (l : List Int) (e : Ending) (w' : World) : Prop :=
  ∃ A n c, e = .returned (.slice A n c) ∧ n ≤ c ∧ RI w' A n l ∧ Below B w w'

theorem insert_any (v : Value) (n base : Nat) (xs : List Int) (x : Int) (i : Nat) (w0 : World) (hown : w0.ownsRow base 3 1 v n (ints xs)) (hi : i ≤ n) (hn : n ≤ 1000000000) (hbase : base ≤ w0.heap.size) :
    Calls Try.prog 22 #[v, .int .i64 i, .slice (some ⟨w0.heap.size, 0, none⟩) 1 1] (w0.alloc (.cells #[.int .i64 x] 3)) (Ins base (w0.alloc (.cells #[.int .i64 x] 3)) (insAt xs i x)) := by
  have hxl : xs.length = n := by have := hown.1; simpa using this
  have hvs : ∀ (j : Nat) (u : Value), [Value.int IntKind.i64 x][j]? = some u → (w0.alloc (.cells #[.int .i64 x] 3)).cell? ⟨w0.heap.size, 0 + j, none⟩ = some u := by
    intro j u hj
    rw [cell_of_row _ _ _ _ _ _ (heap_alloc_new _ _)]
    cases j with
    | zero => simpa using hj
    | succ j => simp at hj
  have h1v : ∀ u ∈ [Value.int IntKind.i64 x], u.oneCell' = true := by intro u hu; simp at hu; subst hu; rfl
  have hB0 : Below base (w0.alloc (.cells #[.int .i64 x] 3)) (w0.alloc (.cells #[.int .i64 x] 3)) := Below.refl _ _
  have hbl : base ≤ (w0.alloc (.cells #[.int .i64 x] 3)).heap.size := by simp; omega
  rcases hown.2 with ⟨rfl, hn0⟩ | ⟨g, cap, cur, rfl, hg, hh, hnc, hcm, hcs, ht⟩
  · -- nil
    subst hn0
    obtain rfl : i = 0 := by omega
    have hx : xs = [] := List.eq_nil_of_length_eq_zero hxl
    subst hx
    refine (Try.slices_Insert_int_end_grow none 0 0 w0.heap.size 0 1 1 [] [.int .i64 x] _ (by omega) (by omega) (by omega) (by omega) rfl rfl (fun _ => rfl) (fun a h => by cases h) hvs h1v).mono ?_
    rintro e w' ⟨rfl, rfl⟩
    refine ⟨_, _, _, rfl, grownCap_ge _ _ _ _, ri_of_cells rfl (by simp) (fun j y hj => ?_), (Below.refl _ _).drew.alloc (by simp; omega) _⟩
    have hw : ((w0.alloc (.cells #[.int .i64 x] 3)).drew.alloc (.cells (([] ++ [Value.int .i64 x]).toArray ++ Builtin.zeroCells (Value.int .i64 0).cells (grownCap (w0.alloc (.cells #[.int .i64 x] 3)) (0 + 1) 0 3 - (0 + 1))) 3)).heap[(w0.alloc (.cells #[.int .i64 x] 3)).heap.size]? = some _ := heap_alloc_new (w0.alloc (.cells #[.int .i64 x] 3)).drew _
    rw [cell_of_row _ _ _ _ _ _ hw]
    cases j with
    | zero => simp [insAt] at hj; subst hj; rw [Array.getElem?_append_left (by simp)]; simp
    | succ j => simp [insAt] at hj
  · have hn' : n ≤ cap := hnc
    have hcz : cur.size = cap := by omega
    have hgl : g < w0.heap.size := by
      rcases Nat.lt_or_ge g w0.heap.size with h | h
      · exact h
      · rw [Array.getElem?_eq_none h] at hh; cases hh
    have hW : (w0.alloc (.cells #[.int .i64 x] 3)).heap[g]? = some (.cells cur 3 (0, 0)) := (Below.heap_alloc _ _ _ hgl).trans hh
    have hcell : ∀ j, (w0.alloc (.cells #[.int .i64 x] 3)).cell? ⟨g, j, none⟩ = cur[j]? := fun j => cell_of_row _ _ _ _ _ _ hW
    have hcs' : ∀ (j : Nat) (u : Value), (ints xs)[j]? = some u → (w0.alloc (.cells #[.int .i64 x] 3)).cell? ⟨g, 0 + j, none⟩ = some u := by
      intro j u hj
      rw [Nat.zero_add, hcell]
      rw [← ht, List.getElem?_take] at hj
      split at hj
      · simpa using hj
      · cases hj
    have hlen : (ints xs).length = n := by simp [hxl]
    have hget : ∀ (j : Nat) (y : Int), xs[j]? = some y → (w0.alloc (.cells #[.int .i64 x] 3)).cell? ⟨g, j, none⟩ = some (.int .i64 y) := by
      intro j y hj
      have := hcs' j (.int .i64 y) (by simp [hj])
      rwa [Nat.zero_add] at this
    have hlt : ∀ {j : Nat} {y : Int}, xs[j]? = some y → j < n := by
      intro j y hj
      rcases Nat.lt_or_ge j n with h | h
      · exact h
      · rw [List.getElem?_eq_none (by omega)] at hj; cases hj
    by_cases hroom : n + 1 ≤ cap
    · have hsome : ∀ j, j < cap → ((w0.alloc (.cells #[.int .i64 x] 3)).cell? ⟨g, j, none⟩).isSome = true := by
        intro j hj
        rw [hcell, Array.getElem?_eq_getElem (by omega)]
        rfl
      by_cases hin : i < n
      · -- in place
        refine (Try.slices_Insert_int_shift g 0 n cap i w0.heap.size 0 1 1 (ints xs) [.int .i64 x] _ hin (by omega) hroom (by simp only [maxLen] at hcm; omega) (by omega) hlen rfl hcs' (fun j hj => by rw [Nat.zero_add]; exact hsome j (by omega)) (fun j _ => frozen_of_row _ _ _ _ _ hW) hvs (ints_one _) h1v 3 3 1 cap
          (by have hs := heap_alloc_new w0 (.cells #[.int .i64 x] 3); unfold World.shape?; rw [hs]; rfl) (by simp only [World.shape?, hW, hcz]) (by omega) (frozen_of_row _ _ _ _ _ (heap_alloc_new _ _)) (frozen_of_row _ _ _ _ _ (heap_alloc_new _ _))).mono ?_
        rintro e w' ⟨rfl, rfl⟩
        have hB : Below base (w0.alloc (.cells #[.int .i64 x] 3)) (((w0.alloc (.cells #[.int .i64 x] 3)).drew.setCells g (0 + (i + 1)) ((ints xs).drop i)).setCells g (0 + i) [.int .i64 x]) :=
          below_setCells g hg _ _ _ (below_setCells g hg _ _ _ hB0.drew)
        refine ⟨_, _, _, rfl, hroom, ri_of_cells (by rw [insAt_len _ _ _ (by omega), hxl]) (by rw [size_setCells, size_setCells]; simp; omega) (fun j y hj => ?_), hB⟩
        rw [insAt_get _ _ _ (by omega)] at hj
        rw [Nat.zero_add, Nat.zero_add]
        by_cases h1 : j < i
        · rw [if_pos h1] at hj
          rw [World.cell?_setCells_out _ _ _ _ _ (fun _ _ => .inl (by show j < i; exact h1)), World.cell?_setCells_out _ _ _ _ _ (fun _ _ => .inl (by show j < i + 1; omega))]
          exact hget j y hj
        · rw [if_neg h1] at hj
          have hs1 : ∀ j, j < ((ints xs).drop i).length → ((w0.alloc (.cells #[.int .i64 x] 3)).drew.cell? ⟨g, i + 1 + j, none⟩).isSome = true := by
            intro j hj
            rw [List.length_drop, hlen] at hj
            exact hsome _ (by omega)
          by_cases h2 : j = i
          · rw [if_pos h2] at hj
            subst h2
            injection hj with hj
            subst hj
            have := World.cell?_setCells_in g [Value.int .i64 x] j ((w0.alloc (.cells #[.int .i64 x] 3)).drew.setCells g (j + 1) ((ints xs).drop j)) (fun k hk => by
              rw [World.cell?_setCells_out _ _ _ _ _ (fun _ _ => .inl (by show j + k < j + 1; simp at hk; omega))]
              exact hsome _ (by simp at hk; omega)) 0 (by simp)
            simpa using this
          · rw [if_neg h2] at hj
            rw [World.cell?_setCells_out _ _ _ _ _ (fun _ _ => .inr (by show i + 1 ≤ j; omega))]
            have hj2 := hlt hj
            have := World.cell?_setCells_in g ((ints xs).drop i) (i + 1) (w0.alloc (.cells #[.int .i64 x] 3)).drew hs1 (j - (i + 1)) (by rw [List.length_drop, hlen]; omega)
            rw [show i + 1 + (j - (i + 1)) = j from by omega] at this
            rw [this]
            congr 1
            rw [List.getElem_drop]
            have h3 : (ints xs)[i + (j - (i + 1))]? = some (.int .i64 y) := by
              rw [show i + (j - (i + 1)) = j - 1 from by omega]
              simp [hj]
            rw [List.getElem?_eq_getElem (by rw [hlen]; omega)] at h3
            injection h3
      · -- at the end, in the room
        obtain rfl : i = n := by omega
        refine (Try.slices_Insert_int_end_room g 0 i cap w0.heap.size 0 1 1 [.int .i64 x] _ (by omega) hroom (by simp only [maxLen] at hcm; omega) rfl (fun j hj => hsome _ (by omega)) (fun j _ => frozen_of_row _ _ _ _ _ hW) hvs h1v).mono ?_
        rintro e w' ⟨rfl, rfl⟩
        refine ⟨_, _, _, rfl, hroom, ri_of_cells (by rw [insAt_len _ _ _ (by omega), hxl]) (by rw [size_setCells]; simp; omega) (fun j y hj => ?_), below_setCells g hg _ _ _ hB0⟩
        rw [insAt_get _ _ _ (by omega)] at hj
        rw [Nat.zero_add]
        by_cases h1 : j < i
        · rw [if_pos h1] at hj
          rw [World.cell?_setCells_out _ _ _ _ _ (fun _ _ => .inl (by show j < i; exact h1))]
          exact hget j y hj
        · rw [if_neg h1] at hj
          by_cases h2 : j = i
          · rw [if_pos h2] at hj
            subst h2
            injection hj with hj
            subst hj
            have := World.cell?_setCells_in g [Value.int .i64 x] j (w0.alloc (.cells #[.int .i64 x] 3)) (fun k hk => hsome _ (by simp at hk; omega)) 0 (by simp)
            simpa using this
          · rw [if_neg h2, List.getElem?_eq_none (by omega)] at hj; cases hj
    · by_cases hin : i < n
      · -- in a new row
        refine (Try.slices_Insert_int_grow g 0 n cap i w0.heap.size 0 1 1 (ints xs) [.int .i64 x] _ hin (by omega) hn' (by omega) (by omega) hlen rfl hcs' hvs (ints_one _) h1v).mono ?_
        rintro e w' ⟨rfl, rfl⟩
        generalize hW0 : w0.alloc (.cells #[.int .i64 x] 3) = W at *
        have hz : ∀ k, (Builtin.zeroCells (Value.int .i64 0).cells k).size = k := by intro k; simp [Builtin.zeroCells, Value.cells]
        generalize hcells : (((ints xs).take i).toArray ++ Builtin.zeroCells (Value.int .i64 0).cells (n + 1 - i) ++ Builtin.zeroCells (Value.int .i64 0).cells (grownCap W (n + 1) cap 3 - (n + 1))) = CS at *
        have hsz : n + 1 ≤ CS.size := by
          rw [← hcells, Array.size_append, Array.size_append, hz, hz]
          simp; omega
        have hnew : (W.alloc (.cells CS 3)).drew.heap[W.heap.size]? = some (.cells CS 3 (0, 0)) := heap_alloc_new W _
        have hc2 : ∀ j, (W.alloc (.cells CS 3)).drew.cell? ⟨W.heap.size, j, none⟩ = CS[j]? := fun j => cell_of_row _ _ _ _ _ _ hnew
        have hso : ∀ j, j < n + 1 → ((W.alloc (.cells CS 3)).drew.cell? ⟨W.heap.size, j, none⟩).isSome = true := by
          intro j hj
          rw [hc2, Array.getElem?_eq_getElem (by omega)]; rfl
        have hB1 : Below base W (W.alloc (.cells CS 3)).drew := (hB0.alloc hbl _).drew
        refine ⟨_, _, _, rfl, grownCap_ge _ _ _ _, ri_of_cells (by rw [insAt_len _ _ _ (by omega), hxl]) (by rw [size_setCells]; show _ < (World.setCells _ _ _ _).heap.size; rw [size_setCells]; simp) (fun j y hj => ?_), below_setCells _ hbl _ _ _ (below_setCells _ hbl _ _ _ hB1).drew⟩
        rw [insAt_get _ _ _ (by omega)] at hj
        have hs2 : ∀ k, k < ((ints xs).drop i).length → ((((W.alloc (.cells CS 3)).drew.setCells W.heap.size i [.int .i64 x]).drew).cell? ⟨W.heap.size, i + 1 + k, none⟩).isSome = true := by
          intro k hk
          rw [List.length_drop, hlen] at hk
          show (((W.alloc (.cells CS 3)).drew.setCells W.heap.size i [.int .i64 x]).cell? ⟨W.heap.size, i + 1 + k, none⟩).isSome = true
          rw [World.cell?_setCells_out _ _ _ _ _ (fun _ _ => .inr (by show i + 1 ≤ i + 1 + k; omega))]
          exact hso _ (by omega)
        by_cases h1 : j < i
        · rw [if_pos h1] at hj
          rw [World.cell?_setCells_out _ _ _ _ _ (fun _ _ => .inl (by show j < i + 1; omega))]
          show ((W.alloc (.cells CS 3)).drew.setCells W.heap.size i [.int .i64 x]).cell? ⟨W.heap.size, j, none⟩ = _
          rw [World.cell?_setCells_out _ _ _ _ _ (fun _ _ => .inl (by show j < i; exact h1)), hc2, ← hcells]
          have hj3 : j < ((ints xs).take i).length := by rw [List.length_take, hlen]; omega
          rw [Array.getElem?_append_left (by rw [Array.size_append]; simp only [List.size_toArray]; omega), Array.getElem?_append_left (by simp only [List.size_toArray]; exact hj3)]
          simp [h1, hj]
        · rw [if_neg h1] at hj
          by_cases h2 : j = i
          · rw [if_pos h2] at hj
            subst h2
            injection hj with hj
            subst hj
            rw [World.cell?_setCells_out _ _ _ _ _ (fun _ _ => .inl (by show j < j + 1; omega))]
            show ((W.alloc (.cells CS 3)).drew.setCells W.heap.size j [.int .i64 x]).cell? ⟨W.heap.size, j, none⟩ = _
            have := World.cell?_setCells_in W.heap.size [Value.int .i64 x] j (W.alloc (.cells CS 3)).drew (fun k hk => hso _ (by simp at hk; omega)) 0 (by simp)
            simpa using this
          · rw [if_neg h2] at hj
            have hj2 := hlt hj
            have := World.cell?_setCells_in W.heap.size ((ints xs).drop i) (i + 1) (((W.alloc (.cells CS 3)).drew.setCells W.heap.size i [.int .i64 x]).drew) hs2 (j - (i + 1)) (by rw [List.length_drop, hlen]; omega)
            rw [show i + 1 + (j - (i + 1)) = j from by omega] at this
            rw [this]
            congr 1
            rw [List.getElem_drop]
            have h3 : (ints xs)[i + (j - (i + 1))]? = some (.int .i64 y) := by
              rw [show i + (j - (i + 1)) = j - 1 from by omega]
              simp [hj]
            rw [List.getElem?_eq_getElem (by rw [hlen]; omega)] at h3
            injection h3
      · -- at the end, in a new row
        obtain rfl : i = n := by omega
        refine (Try.slices_Insert_int_end_grow (some ⟨g, 0, none⟩) i cap w0.heap.size 0 1 1 (ints xs) [.int .i64 x] _ (by omega) hn' (by omega) (by omega) hlen rfl (fun h => by cases h) (fun a ha j u hj => by
          injection ha with ha
          subst ha
          have hadd : (⟨g, 0, none⟩ : Addr).add j = ⟨g, j, none⟩ := by unfold Addr.add; split <;> simp_all
          rw [hadd]
          have := hcs' j u hj
          rwa [Nat.zero_add] at this) hvs h1v).mono ?_
        rintro e w' ⟨rfl, rfl⟩
        refine ⟨_, _, _, rfl, grownCap_ge _ _ _ _, ri_of_cells (by rw [insAt_len _ _ _ (by omega), hxl]) (by simp) (fun j y hj => ?_), hB0.drew.alloc (by simp; omega) _⟩
        have hw : ((w0.alloc (.cells #[.int .i64 x] 3)).drew.alloc (.cells (((ints xs) ++ [Value.int .i64 x]).toArray ++ Builtin.zeroCells (Value.int .i64 0).cells (grownCap (w0.alloc (.cells #[.int .i64 x] 3)) (i + 1) cap 3 - (i + 1))) 3)).heap[(w0.alloc (.cells #[.int .i64 x] 3)).heap.size]? = some _ := heap_alloc_new (w0.alloc (.cells #[.int .i64 x] 3)).drew _
        rw [cell_of_row _ _ _ _ _ _ hw]
        rw [insAt_get _ _ _ (by omega)] at hj
        by_cases h1 : j < i
        · rw [if_pos h1] at hj
          rw [Array.getElem?_append_left (by simp [hxl]; omega)]
          simp only [List.getElem?_toArray]
          rw [List.getElem?_append_left (by rw [hlen]; exact h1)]
          simp [hj]
        · rw [if_neg h1] at hj
          by_cases h2 : j = i
          · rw [if_pos h2] at hj
            subst h2
            injection hj with hj
            subst hj
            rw [Array.getElem?_append_left (by simp [hxl])]
            simp only [List.getElem?_toArray]
            rw [List.getElem?_append_right (by rw [hlen]; exact Nat.le_refl _), hlen]
            simp
          · rw [if_neg h2, List.getElem?_eq_none (by omega)] at hj; cases hj
end Go.Proofs.Ytjidfnogmedgnaa
