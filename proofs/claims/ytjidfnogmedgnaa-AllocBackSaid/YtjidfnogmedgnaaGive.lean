/- The walks of alloc's Give, and of the reference's Free, Take and Give. -/
import Derived.Test.YtjidfnogmedgnaaRefs
import Derived.BigQuiet
namespace Go.Proofs.Ytjidfnogmedgnaa
open Go.RowKit
set_option maxHeartbeats 1000000
set_option maxRecDepth 100000

/-! ### Where a number stands -/
def place (xs : List Int) (x : Int) : Nat := xs.countP fun y => decide (y < x)
theorem place_of {xs : List Int} {x : Int} {i : Nat} (h : Stands xs x i) (hi : i ≤ xs.length) : place xs x = i := by
  unfold place
  conv => lhs; rw [← List.take_append_drop i xs]
  rw [List.countP_append]
  have h1 : (xs.take i).countP (fun y => decide (y < x)) = (xs.take i).length := by
    rw [List.countP_eq_length]
    intro u hu
    obtain ⟨t, ht, rfl⟩ := List.mem_iff_getElem.1 hu
    rw [List.length_take] at ht
    simp only [decide_eq_true_eq]
    exact h.1 t _ (by omega) (by rw [List.getElem_take, List.getElem?_eq_getElem (by omega)])
  have h2 : (xs.drop i).countP (fun y => decide (y < x)) = 0 := by
    rw [List.countP_eq_zero]
    intro u hu
    obtain ⟨t, ht, rfl⟩ := List.mem_iff_getElem.1 hu
    rw [List.length_drop] at ht
    have := h.2 (i + t) (xs[i + t]'(by omega)) (by omega) (by rw [List.getElem?_eq_getElem (by omega)])
    simp only [decide_eq_true_eq, List.getElem_drop]
    omega
  rw [h1, h2, List.length_take]
  omega
theorem stands_ex (x : Int) : ∀ (xs : List Int), Rise xs → ∃ i, i ≤ xs.length ∧ Stands xs x i
  | [], _ => ⟨0, Nat.le_refl _, fun t u ht => by omega, fun t u _ hu => by simp at hu⟩
  | y :: l, hr => by
    by_cases h : y < x
    · obtain ⟨i, hi, h1, h2⟩ := stands_ex x l (fun p q u v hpq hu hv => hr (p + 1) (q + 1) u v (by omega) (by simpa using hu) (by simpa using hv))
      refine ⟨i + 1, by simp; omega, fun t u ht hu => ?_, fun t u ht hu => ?_⟩
      · cases t with
        | zero => simp at hu; omega
        | succ t => exact h1 t u (by omega) (by simpa using hu)
      · cases t with
        | zero => omega
        | succ t => exact h2 t u (by omega) (by simpa using hu)
    · refine ⟨0, by simp, fun t u ht => by omega, fun t u ht hu => ?_⟩
      cases t with
      | zero => simp at hu; omega
      | succ t => have := hr 0 (t + 1) y u (by omega) (by simp) hu; omega
theorem stands_place {xs : List Int} (x : Int) (hr : Rise xs) : Stands xs x (place xs x) := by
  obtain ⟨i, hi, h⟩ := stands_ex x xs hr
  rw [place_of h hi]
  exact h
theorem place_le (xs : List Int) (x : Int) : place xs x ≤ xs.length := List.countP_le_length
theorem isIn_iff (xs : List Int) (x : Int) : isIn xs x = true ↔ x ∈ xs := by simp [isIn]
theorem is_eq {xs : List Int} {x : Int} {i : Nat} (h : Stands xs x i) (hr : Rise xs) : (xs[i]? == some x) = isIn xs x := by
  rw [Bool.eq_iff_iff, isIn_iff, beq_iff_eq]
  constructor
  · intro he
    exact List.mem_of_getElem? he
  · intro hm
    obtain ⟨t, ht, he⟩ := List.mem_iff_getElem.1 hm
    have h0 : xs[t]? = some x := by rw [List.getElem?_eq_getElem ht, he]
    have h1 : i ≤ t := by
      rcases Nat.lt_or_ge t i with h' | h'
      · have := h.1 t x h' h0; omega
      · exact h'
    by_cases h2 : t = i
    · rw [← h2]; exact h0
    · have h3 : i < xs.length := by omega
      have h4 : xs[i]? = some (xs[i]'h3) := List.getElem?_eq_getElem h3
      have h5 := h.2 i _ (Nat.le_refl _) h4
      have h6 := hr i t _ _ (by omega) h4 h0
      omega

/-! ### Give -/
def giveOf (xs : List Int) (x : Int) : List Int × Int :=
  if chk xs = false ∨ isBlock x = false ∨ isIn xs x = true then (xs, 1) else (insAt xs (place xs x) x, 0)

theorem give_any (A : Option Addr) (n c : Nat) (xs : List Int) (x : Int) (w : World) (h : RI w A n xs) (hn : n ≤ 100000000) (hnc : n ≤ c) :
    Calls Try.prog 13 #[.slice A n c, .int .i64 x] w (One w (giveOf xs x)) := by
  have HR := Lib.hid h
  clear h
  cases hc : chk xs with
  | false =>
    have HT := Lib.hid (show giveOf xs x = (xs, 1) from by simp [giveOf, hc])
    go_enter Try.func13, Try.ntmps13
    go_wp2_with fail
    refine (bsearch_any A n c xs x _ HR.out (by omega)).mono ?_
    rintro e w1 ⟨i, rfl, hi, _, rfl⟩
    go_wp2_with fail
    refine (check_any A n c xs _ HR.out (by omega)).mono ?_
    rw [hc]
    rintro e w1 ⟨rfl, rfl⟩
    go_wp2
    go_ret2
    exact ⟨A, n, c, by rw [HT.out]; rfl, hnc, by rw [HT.out]; exact HR.out, Below.refl _ _⟩
  | true =>
    have HRise := Lib.hid (rise_of_chk xs 0 hc).2
    cases hb : isBlock x with
    | false =>
      have HT := Lib.hid (show giveOf xs x = (xs, 1) from by simp [giveOf, hb])
      go_enter Try.func13, Try.ntmps13
      go_wp2_with fail
      refine (bsearch_any A n c xs x _ HR.out (by omega)).mono ?_
      rintro e w1 ⟨i, rfl, hi, _, rfl⟩
      go_wp2_with fail
      refine (check_any A n c xs _ HR.out (by omega)).mono ?_
      rw [hc]
      rintro e w1 ⟨rfl, rfl⟩
      go_wp2_with fail
      refine (block_any x _).mono ?_
      rw [hb]
      rintro e w1 ⟨rfl, rfl⟩
      go_wp2
      go_ret2
      exact ⟨A, n, c, by rw [HT.out]; rfl, hnc, by rw [HT.out]; exact HR.out, Below.refl _ _⟩
    | true =>
      go_enter Try.func13, Try.ntmps13
      go_wp2_with fail
      refine (bsearch_any A n c xs x _ HR.out (by omega)).mono ?_
      rintro e w1 ⟨i, rfl, hi, hst, rfl⟩
      have HS := Lib.hid (hst HRise.out)
      clear hst
      rw [is_eq HS.out HRise.out]
      cases hin : isIn xs x with
      | true =>
        have HT := Lib.hid (show giveOf xs x = (xs, 1) from by simp [giveOf, hin])
        go_wp2_with fail
        refine (check_any A n c xs _ HR.out (by omega)).mono ?_
        rw [hc]
        rintro e w1 ⟨rfl, rfl⟩
        go_wp2_with fail
        refine (block_any x _).mono ?_
        rw [hb]
        rintro e w1 ⟨rfl, rfl⟩
        go_wp2
        go_ret2
        exact ⟨A, n, c, by rw [HT.out]; rfl, hnc, by rw [HT.out]; exact HR.out, Below.refl _ _⟩
      | false =>
        have HT := Lib.hid (show giveOf xs x = (insAt xs i x, 0) from by simp [giveOf, hin, hb, hc, place_of HS.out (by rw [HR.out.len]; exact hi)])
        go_wp2_with fail
        refine (check_any A n c xs _ HR.out (by omega)).mono ?_
        rw [hc]
        rintro e w1 ⟨rfl, rfl⟩
        go_wp2_with fail
        refine (block_any x _).mono ?_
        rw [hb]
        rintro e w1 ⟨rfl, rfl⟩
        go_wp2_with fail
        refine (clone_any A n c xs _ HR.out (by omega)).mono ?_
        rintro e w1 ⟨v, rfl, hown, hB1⟩
        go_wp2_with fail
        refine (insert_any v n w.heap.size xs x i w1 hown hi (by omega) hB1.size).mono ?_
        rintro e w2 ⟨A2, n2, c2, rfl, hc2, hr2, hB2⟩
        go_wp2
        go_ret2
        exact ⟨A2, n2, c2, by rw [HT.out]; rfl, hc2, by rw [HT.out]; exact hr2, (hB1.alloc hB1.size _).trans hB2⟩

/-! ### Numbers -/
theorem numbers_any (A : Option Addr) (n c : Nat) (xs : List Int) (B : Option Addr) (m d : Nat) (ys : List Int) (w : World) (h : RI w A n xs) (h' : RI w B m ys) (hn : n ≤ 1000000000) (hm : m ≤ 1000000000) :
    Calls Try.prog 15 #[.slice A n c, .slice B m d] w fun e w' => e = .returned (.bool (decide (xs = ys))) ∧ Below w.heap.size w w' := by
  have HR := Lib.hid h
  have HR' := Lib.hid h'
  clear h h'
  by_cases hnm : n = m
  · subst hnm
    go_enter Try.func15, Try.ntmps15
    go_wp2
    go_loopw [5] (fun i wr => ∃ k : Nat, k ≤ n ∧ i = .int .i64 k ∧ Hid (xs = ys ↔ xs.drop k = ys.drop k) ∧ Below w.heap.size w wr) (fun i _ => n - (intOf i).toNat)
    case atStart => exact ⟨0, by omega, rfl, Lib.hid Iff.rfl, Below.refl _ _⟩
    case round =>
      obtain ⟨k, hk, rfl, HC, hB⟩ := hrel
      by_cases hlt : k < n
      · obtain ⟨ad, y, rfl, hb, hx, hc⟩ := (HR.out.below hB).at_ hlt
        obtain ⟨ad', z, rfl, hb', hx', hc'⟩ := (HR'.out.below hB).at_ hlt
        have HS := Lib.hid (show (xs.drop k = ys.drop k) ↔ (y = z ∧ xs.drop (k + 1) = ys.drop (k + 1)) from by rw [drop_step hx, drop_step hx', List.cons.injEq])
        clear hx hx'
        cases hyz : decide (y = z) with
        | false =>
          have hq : (y == z) = false := by simpa using hyz
          go_wp2_with fail
          go_quiet (fail)
          go_wp2
          go_ret
          refine ⟨ret_bool ?_, hB.drewN _⟩
          have h1 : ¬ (xs = ys) := by rw [HC.out, HS.out]; simp at hyz; simp [hyz]
          simp [h1]
        | true =>
          have hq : (y == z) = true := by simpa using hyz
          go_wp2_with fail
          go_quiet (fail)
          go_wp2
          refine ⟨⟨k + 1, by omega, by go_num, Lib.hid ?_, hB.drewN _⟩, by simp [intOf]; omega⟩
          rw [HC.out, HS.out]
          simp at hyz
          simp [hyz]
      · have HN := Lib.hid (show xs.drop k = ys.drop k from by rw [List.drop_eq_nil_of_le (by rw [HR.out.len]; omega), List.drop_eq_nil_of_le (by rw [HR'.out.len]; omega)])
        go_wp2
        go_ret
        exact ⟨ret_bool (by have := HC.out.2 HN.out; simp [this]), hB⟩
  · have HN := Lib.hid (show ¬ (xs = ys) from by intro h; apply hnm; rw [← HR.out.len, ← HR'.out.len, h])
    go_enter Try.func15, Try.ntmps15
    go_wp2
    go_ret
    exact ⟨ret_bool (by have := HN.out; simp [this]), Below.refl _ _⟩

/-! ### The reference's Free -/
/-- The numbers of one to a bound that are in no list. -/
def refTo (xs : List Int) : Nat → List Int
  | 0 => []
  | k + 1 => if decide (0 < k) && !isIn xs k then refTo xs k ++ [(k : Int)] else refTo xs k
theorem refTo_len (xs : List Int) (k : Nat) : (refTo xs k).length ≤ k := by
  induction k with
  | zero => simp [refTo]
  | succ k ih => rw [refTo]; split <;> (try rw [List.length_append]) <;> (try simp only [List.length_cons, List.length_nil]) <;> omega
def refFreeOf (blocks : Int) (used : List Int) : List Int × Int :=
  if blocks < 1 ∨ 256 < blocks then ([], 1) else (refTo used blocks.toNat, 0)

theorem refFree_any (blocks : Int) (A : Option Addr) (n c : Nat) (xs : List Int) (w : World) (h : RI w A n xs) (hn : n ≤ 1000000000) :
    Calls Try.prog 10 #[.int .i64 blocks, .slice A n c] w (One w (refFreeOf blocks xs)) := by
  have HR := Lib.hid h
  clear h
  by_cases h0 : blocks < 1
  · have HT := Lib.hid (show refFreeOf blocks xs = ([], 1) from by simp [refFreeOf, h0])
    go_enter Try.func10, Try.ntmps10
    go_wp2
    go_ret2
    exact ⟨none, 0, 0, by rw [HT.out]; rfl, Nat.le_refl _, by rw [HT.out]; exact RI.nil _, Below.refl _ _⟩
  by_cases h1 : 256 < blocks
  · have HT := Lib.hid (show refFreeOf blocks xs = ([], 1) from by simp [refFreeOf, h1])
    go_enter Try.func10, Try.ntmps10
    go_wp2
    go_ret2
    exact ⟨none, 0, 0, by rw [HT.out]; rfl, Nat.le_refl _, by rw [HT.out]; exact RI.nil _, Below.refl _ _⟩
  have HT := Lib.hid (show refFreeOf blocks xs = (refTo xs blocks.toNat, 0) from by simp [refFreeOf, h0, h1])
  obtain ⟨m, rfl⟩ := Int.eq_ofNat_of_zero_le (show 0 ≤ blocks by omega)
  have hm0 : 1 ≤ m := by omega
  have hm1 : m ≤ 256 := by omega
  obtain ⟨i0, hi0, hz0, hz1, hz2⟩ := info_parts int_info
  go_enter Try.func10, Try.ntmps10
  go_wp2
  go_loopw [6, 7] (fun v i wr => ∃ k : Nat, 1 ≤ k ∧ k ≤ m ∧ i = .int .i64 k ∧ wr.ownsRow w.heap.size 3 1 v (refTo xs k).length (ints (refTo xs k)) ∧ Below w.heap.size w wr) (fun _ i _ => m - (intOf i).toNat)
  case atStart => exact ⟨1, by omega, by omega, rfl, ⟨by simp [refTo], .inl ⟨rfl, rfl⟩⟩, Below.refl _ _⟩
  case round =>
    obtain ⟨k, hk0, hk, rfl, hown, hB⟩ := hrel
    have HO := Lib.hid hown
    clear hown
    by_cases hlt : k < m
    · have HL := Lib.hid (refTo_len xs k)
      cases hin : isIn xs k with
      | true =>
        have HF := Lib.hid (show refTo xs (k + 1) = refTo xs k from by rw [refTo, hin]; simp)
        go_wp2_with fail
        refine (in_any A n c xs k _ (HR.out.below hB) hn).mono ?_
        rw [hin]
        rintro e w1 ⟨rfl, rfl⟩
        go_wp2
        refine ⟨⟨k + 1, by omega, by omega, by go_num, by rw [HF.out]; exact HO.out, hB⟩, by simp [intOf]; omega⟩
      | false =>
        have HF := Lib.hid (show refTo xs (k + 1) = refTo xs k ++ [(k : Int)] from by rw [refTo, hin]; simp; omega)
        go_wp2_with fail
        refine (in_any A n c xs k _ (HR.out.below hB) hn).mono ?_
        rw [hin]
        rintro e w1 ⟨rfl, rfl⟩
        go_wp2_with (first
          | (at_builtin
             refine wpList_append_any _ rfl _ _ _ rfl w.heap.size 3 i0 _ 1 8 Try.underlying22 hi0 hz0 hz1 hz2 rfl (by omega) _ _ _ rfl (HO.out.alloc _) _ (some ⟨wr.heap.size, 0, none⟩) 1 1 (ints [(k : Int)]) rfl (Reads.of_own (World.ownsRow_lit (base := wr.heap.size) (e := 3) (size := 1) wr #[.int .i64 (k : Int)] 1 (Nat.le_refl _) (by simp [maxLen]) rfl)) (ints_one _) (by have := HL.out; simp only [maxLen]; omega) (by have := HL.out; omega) (by have := hB.size; simp; omega) ?_
             intro v2 w2 hown2 hg2 hat2))
        refine ⟨⟨k + 1, by omega, by omega, by go_num, ?_, (hB.alloc hB.size _).grown hg2 (hB.alloc hB.size _).size (fun g hg => own_ge HO.out hg)⟩, by simp [intOf]; omega⟩
        rw [HF.out, List.length_append]
        have e : ints (refTo xs k ++ [(k : Int)]) = ints (refTo xs k) ++ ints [(k : Int)] := by simp
        rw [e]
        exact hown2
    · obtain rfl : k = m := by omega
      go_wp2
      obtain ⟨A1, c1, rfl, hc1, hr1⟩ := own_cap HO.out
      go_ret2
      exact ⟨A1, _, c1, by rw [HT.out]; rfl, hc1, by rw [HT.out]; exact hr1, hB⟩
end Go.Proofs.Ytjidfnogmedgnaa
