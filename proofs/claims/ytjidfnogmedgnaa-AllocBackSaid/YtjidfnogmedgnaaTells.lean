/- The walk of AllocTells: the program's answers and the reference's are the same lists. -/
import Derived.Test.YtjidfnogmedgnaaAwake
namespace Go.Proofs.Ytjidfnogmedgnaa
open Go.RowKit
set_option maxHeartbeats 1000000
set_option maxRecDepth 100000

theorem taken_isIn (xs : List Int) (k : Nat) (h0 : 0 < k) (h1 : k < 256) : takenBy xs k = isIn xs k := by
  rw [Bool.eq_iff_iff]
  simp only [takenBy, isIn, isBlock, List.any_eq_true, Bool.and_eq_true, beq_iff_eq, decide_eq_true_eq]
  constructor
  · rintro ⟨x, hx, rfl, _⟩; exact ⟨_, hx, rfl⟩
  · rintro ⟨x, hx, rfl⟩; exact ⟨_, hx, rfl, by omega, by omega⟩
theorem freeTo_ref (xs : List Int) : ∀ k, k ≤ 256 → freeTo (takenBy xs) k = refTo xs k
  | 0, _ => rfl
  | k + 1, h => by
    rw [freeTo, refTo, freeTo_ref xs k (by omega)]
    by_cases hk : 0 < k
    · rw [taken_isIn xs k hk (by omega)]
    · simp [hk]
theorem free_ref (b : Int) (xs : List Int) : refFreeOf b xs = freeOf b xs := by
  unfold freeOf refFreeOf
  split
  · rfl
  · rw [freeTo_ref xs _ (by omega)]

theorem freeOf_len (b : Int) (xs : List Int) : (freeOf b xs).1.length ≤ 256 := by
  unfold freeOf
  split
  · simp
  · have := freeTo_len (takenBy xs) b.toNat
    show (freeTo (takenBy xs) b.toNat).length ≤ 256
    omega
theorem takeOf_len (ys : List Int) (x : Int) : (takeOf ys x).1.length ≤ ys.length ∧ (takeOf ys x).2.1.length ≤ ys.length := by
  unfold takeOf
  split
  · simp
  · split
    · simp
    · split
      · simp
      · simp; omega
theorem giveOf_len (ys : List Int) (x : Int) : (giveOf ys x).1.length ≤ ys.length + 1 := by
  unfold giveOf
  split
  · simp
  · show (insAt ys (place ys x) x).length ≤ _
    rw [insAt_len _ _ _ (place_le _ _)]
    omega

theorem tells_all (b : Int) (A : Option Addr) (n c : Nat) (xs : List Int) (B : Option Addr) (m d : Nat) (ys : List Int) (x : Int) (w : World) (h : RI w A n xs) (h' : RI w B m ys) (hmd : m ≤ d) (hn : n ≤ 9223372036854775807) (hm : m ≤ 9223372036854775807) :
    Calls Try.prog 3 #[.int .i64 b, .slice A n c, .slice B m d, .int .i64 x] w fun e w' => e = .returned (.bool true) ∧ Below w.heap.size w w' := by
  have HR := Lib.hid h
  have HR' := Lib.hid h'
  clear h h'
  by_cases h1 : 1000 < n
  · go_enter Try.func3, Try.ntmps3
    go_wp2_with fail
    refine (awake_any w).mono ?_
    rintro e w1 ⟨rfl, hB1⟩
    go_wp2
    go_ret
    exact ⟨rfl, hB1⟩
  by_cases h2 : 1000 < m
  · go_enter Try.func3, Try.ntmps3
    go_wp2_with fail
    refine (awake_any w).mono ?_
    rintro e w1 ⟨rfl, hB1⟩
    go_wp2
    go_ret
    exact ⟨rfl, hB1⟩
  clear hn hm
  obtain ⟨⟨l1, e1⟩, HF⟩ : ∃ r, Hid (freeOf b xs = r) := ⟨_, Lib.hid rfl⟩
  obtain ⟨⟨l2, l3, e2⟩, HT⟩ : ∃ r, Hid (takeOf ys x = r) := ⟨_, Lib.hid rfl⟩
  obtain ⟨⟨l4, e3⟩, HG⟩ : ∃ r, Hid (giveOf ys x = r) := ⟨_, Lib.hid rfl⟩
  have HL1 := Lib.hid (show l1.length ≤ 256 from by have := freeOf_len b xs; rw [HF.out] at this; exact this)
  have HL2 := Lib.hid (show l2.length ≤ m ∧ l3.length ≤ m from by have := takeOf_len ys x; rw [HT.out, HR'.out.len] at this; exact this)
  have HL4 := Lib.hid (show l4.length ≤ m + 1 from by have := giveOf_len ys x; rw [HG.out, HR'.out.len] at this; exact this)
  go_enter Try.func3, Try.ntmps3
  go_wp2_with fail
  refine (awake_any w).mono ?_
  rintro e w1 ⟨rfl, hB1⟩
  have hu1 := HR.out.below hB1
  have hf1 := HR'.out.below hB1
  go_wp2_with fail
  refine (free_any b A n c xs _ hu1 (by omega)).mono ?_
  rw [HF.out]
  rintro e w2 ⟨A1, n1, c1, rfl, hc1, hr1, hB2⟩
  have hn1 : n1 ≤ 256 := by have := HL1.out; rw [hr1.len] at this; exact this
  replace hu1 := hu1.below hB2
  replace hf1 := hf1.below hB2
  replace hB1 := hB1.next hB2
  clear hB2
  go_wp2_with fail
  refine (refFree_any b A n c xs _ hu1 (by omega)).mono ?_
  rw [free_ref, HF.out]
  rintro e w3 ⟨A2, n2, c2, rfl, hc2, hr2, hB2⟩
  have hn2 : n2 ≤ 256 := by have := HL1.out; rw [hr2.len] at this; exact this
  replace hf1 := hf1.below hB2
  replace hr1 := hr1.below hB2
  replace hB1 := hB1.next hB2
  clear hB2 hu1
  go_wp2_with fail
  refine (take_any B m d ys x _ hf1 (by omega) hmd).mono ?_
  rw [HT.out]
  rintro e w4 ⟨A3, n3, c3, A4, n4, c4, rfl, hc3, hc4, hr3, hr4, hB2⟩
  have hn3 : n3 ≤ m := by have := HL2.out.1; rw [hr3.len] at this; exact this
  have hn4 : n4 ≤ m := by have := HL2.out.2; rw [hr4.len] at this; exact this
  replace hf1 := hf1.below hB2
  replace hr1 := hr1.below hB2
  replace hr2 := hr2.below hB2
  replace hB1 := hB1.next hB2
  clear hB2
  go_wp2_with fail
  refine (refTake_any B m d ys x _ hf1 (by omega) hmd).mono ?_
  rw [HT.out]
  rintro e w5 ⟨A5, n5, c5, A6, n6, c6, rfl, hc5, hc6, hr5, hr6, hB2⟩
  have hn5 : n5 ≤ m := by have := HL2.out.1; rw [hr5.len] at this; exact this
  have hn6 : n6 ≤ m := by have := HL2.out.2; rw [hr6.len] at this; exact this
  replace hf1 := hf1.below hB2
  replace hr1 := hr1.below hB2
  replace hr2 := hr2.below hB2
  replace hr3 := hr3.below hB2
  replace hr4 := hr4.below hB2
  replace hB1 := hB1.next hB2
  clear hB2
  go_wp2_with fail
  refine (give_any B m d ys x _ hf1 (by omega) hmd).mono ?_
  rw [HG.out]
  rintro e w6 ⟨A7, n7, c7, rfl, hc7, hr7, hB2⟩
  have hn7 : n7 ≤ m + 1 := by have := HL4.out; rw [hr7.len] at this; exact this
  replace hf1 := hf1.below hB2
  replace hr1 := hr1.below hB2
  replace hr2 := hr2.below hB2
  replace hr3 := hr3.below hB2
  replace hr4 := hr4.below hB2
  replace hr5 := hr5.below hB2
  replace hr6 := hr6.below hB2
  replace hB1 := hB1.next hB2
  clear hB2
  go_wp2_with fail
  refine (refGive_any B m d ys x _ hf1 (by omega) hmd).mono ?_
  rw [HG.out]
  rintro e w7 ⟨A8, n8, c8, rfl, hc8, hr8, hB2⟩
  have hn8 : n8 ≤ m + 1 := by have := HL4.out; rw [hr8.len] at this; exact this
  replace hf1 := hf1.below hB2
  replace hr1 := hr1.below hB2
  replace hr2 := hr2.below hB2
  replace hr3 := hr3.below hB2
  replace hr4 := hr4.below hB2
  replace hr5 := hr5.below hB2
  replace hr6 := hr6.below hB2
  replace hr7 := hr7.below hB2
  replace hB1 := hB1.next hB2
  clear hB2
  go_wp2_with fail
  refine (numbers_any A1 n1 c1 l1 A2 n2 c2 l1 _ hr1 hr2 (by omega) (by omega)).mono ?_
  rw [show decide (l1 = l1) = true from by simp]
  rintro e w8 ⟨rfl, hB2⟩
  replace hf1 := hf1.below hB2
  replace hr3 := hr3.below hB2
  replace hr4 := hr4.below hB2
  replace hr5 := hr5.below hB2
  replace hr6 := hr6.below hB2
  replace hr7 := hr7.below hB2
  replace hr8 := hr8.below hB2
  replace hB1 := hB1.next hB2
  clear hB2 hr1 hr2
  go_wp2_with fail
  refine (numbers_any A3 n3 c3 l2 A5 n5 c5 l2 _ hr3 hr5 (by omega) (by omega)).mono ?_
  rw [show decide (l2 = l2) = true from by simp]
  rintro e w9 ⟨rfl, hB2⟩
  replace hf1 := hf1.below hB2
  replace hr4 := hr4.below hB2
  replace hr6 := hr6.below hB2
  replace hr7 := hr7.below hB2
  replace hr8 := hr8.below hB2
  replace hB1 := hB1.next hB2
  clear hB2 hr3 hr5
  go_wp2_with fail
  refine (numbers_any A4 n4 c4 l3 A6 n6 c6 l3 _ hr4 hr6 (by omega) (by omega)).mono ?_
  rw [show decide (l3 = l3) = true from by simp]
  rintro e w10 ⟨rfl, hB2⟩
  replace hf1 := hf1.below hB2
  replace hr7 := hr7.below hB2
  replace hr8 := hr8.below hB2
  replace hB1 := hB1.next hB2
  clear hB2 hr4 hr6
  go_wp2_with fail
  refine (numbers_any A7 n7 c7 l4 A8 n8 c8 l4 _ hr7 hr8 (by omega) (by omega)).mono ?_
  rw [show decide (l4 = l4) = true from by simp]
  rintro e w11 ⟨rfl, hB2⟩
  replace hf1 := hf1.below hB2
  replace hB1 := hB1.next hB2
  clear hB2 hr7 hr8
  go_wp2_with fail
  refine (check_any B m d ys _ hf1 (by omega)).mono ?_
  rintro e w12 ⟨rfl, rfl⟩
  go_wp2_with fail
  refine (refCheck_any B m d ys _ hf1 (by omega)).mono ?_
  rintro e w12 ⟨rfl, hB2⟩
  replace hB1 := hB1.next hB2
  go_wp2
  go_ret
  exact ⟨ret_bool (by simp), hB1⟩
end Go.Proofs.Ytjidfnogmedgnaa
