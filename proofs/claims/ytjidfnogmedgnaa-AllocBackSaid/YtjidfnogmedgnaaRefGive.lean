/- The walk of the reference's Give. -/
import Derived.Test.YtjidfnogmedgnaaRefTake
namespace Go.Proofs.Ytjidfnogmedgnaa
open Go.RowKit
set_option maxHeartbeats 1000000
set_option maxRecDepth 100000

def gOut (xs : List Int) (x : Int) (p k : Nat) : List Int := if k ≤ p then xs.take k else insAt (xs.take k) p x
theorem gOut_lt {xs : List Int} {x y : Int} {p k : Nat} (hk : k < p) (h : xs[k]? = some y) : gOut xs x p (k + 1) = gOut xs x p k ++ [y] := by
  rw [gOut, gOut, if_pos (by omega), if_pos (by omega), take_step h]
theorem insAt_snoc (l : List Int) (p : Nat) (x y : Int) (h : p ≤ l.length) : insAt (l ++ [y]) p x = insAt l p x ++ [y] := by
  unfold insAt
  rw [List.take_append_of_le_length h, List.drop_append_of_le_length h]
  simp
theorem gOut_eq {xs : List Int} {x y : Int} {p : Nat} (h : xs[p]? = some y) : gOut xs x p (p + 1) = (gOut xs x p p ++ [x]) ++ [y] := by
  have hp : p < xs.length := by
    rcases Nat.lt_or_ge p xs.length with h' | h'
    · exact h'
    · rw [List.getElem?_eq_none h'] at h; cases h
  rw [gOut, gOut, if_neg (by omega), if_pos (by omega), take_step h, insAt_snoc _ _ _ _ (by simp; omega)]
  unfold insAt
  simp [List.take_take]
theorem gOut_gt {xs : List Int} {x y : Int} {p k : Nat} (hk : p < k) (h : xs[k]? = some y) : gOut xs x p (k + 1) = gOut xs x p k ++ [y] := by
  have hp : k < xs.length := by
    rcases Nat.lt_or_ge k xs.length with h' | h'
    · exact h'
    · rw [List.getElem?_eq_none h'] at h; cases h
  rw [gOut, gOut, if_neg (by omega), if_neg (by omega), take_step h, insAt_snoc _ _ _ _ (by simp; omega)]
theorem add_block (a : Addr) (k : Nat) : (a.add k).block = a.block := by unfold Addr.add; split <;> rfl
theorem gOut_len (xs : List Int) (x : Int) (p k : Nat) : (gOut xs x p k).length ≤ xs.length + 1 := by
  unfold gOut
  split
  · simp; omega
  · unfold insAt
    simp
    omega

theorem lit_reads (w : World) (x : Int) : RI (w.alloc (.cells #[.int .i64 x] 3)) (some ⟨w.heap.size, 0, none⟩) 1 [x] :=
  Reads.of_own (World.ownsRow_lit (base := w.heap.size) (e := 3) (size := 1) w #[.int .i64 x] 1 (Nat.le_refl _) (by simp [maxLen]) rfl)

theorem refGive_any (A : Option Addr) (n c : Nat) (xs : List Int) (x : Int) (w : World) (h : RI w A n xs) (hn : n ≤ 100000000) (hnc : n ≤ c) :
    Calls Try.prog 14 #[.slice A n c, .int .i64 x] w (One w (giveOf xs x)) := by
  have HR := Lib.hid h
  clear h
  cases hc : chk xs with
  | false =>
    have HT := Lib.hid (show giveOf xs x = (xs, 1) from by simp [giveOf, hc])
    go_enter Try.func14, Try.ntmps14
    go_wp2_with fail
    refine (refCheck_any A n c xs _ HR.out (by omega)).mono ?_
    rw [hc]
    rintro e w1 ⟨rfl, hB1⟩
    go_wp2
    go_ret2
    exact ⟨A, n, c, by rw [HT.out]; rfl, hnc, by rw [HT.out]; exact HR.out.below hB1, hB1⟩
  | true =>
    have HRise := Lib.hid (rise_of_chk xs 0 hc).2
    by_cases hlo : x < 1
    · have HT := Lib.hid (show giveOf xs x = (xs, 1) from by simp [giveOf, isBlock]; omega)
      go_enter Try.func14, Try.ntmps14
      go_wp2_with fail
      refine (refCheck_any A n c xs _ HR.out (by omega)).mono ?_
      rw [hc]
      rintro e w1 ⟨rfl, hB1⟩
      go_wp2
      go_ret2
      exact ⟨A, n, c, by rw [HT.out]; rfl, hnc, by rw [HT.out]; exact HR.out.below hB1, hB1⟩
    by_cases hhi : 255 < x
    · have HT := Lib.hid (show giveOf xs x = (xs, 1) from by simp [giveOf, isBlock]; omega)
      go_enter Try.func14, Try.ntmps14
      go_wp2_with fail
      refine (refCheck_any A n c xs _ HR.out (by omega)).mono ?_
      rw [hc]
      rintro e w1 ⟨rfl, hB1⟩
      go_wp2
      go_ret2
      exact ⟨A, n, c, by rw [HT.out]; rfl, hnc, by rw [HT.out]; exact HR.out.below hB1, hB1⟩
    cases hin : isIn xs x with
    | true =>
      have HT := Lib.hid (show giveOf xs x = (xs, 1) from by simp [giveOf, hin])
      go_enter Try.func14, Try.ntmps14
      go_wp2_with fail
      refine (refCheck_any A n c xs _ HR.out (by omega)).mono ?_
      rw [hc]
      rintro e w1 ⟨rfl, hB1⟩
      go_wp2_with fail
      refine (in_any A n c xs x _ (HR.out.below hB1) (by omega)).mono ?_
      rw [hin]
      rintro e w1 ⟨rfl, rfl⟩
      go_wp2
      go_ret2
      exact ⟨A, n, c, by rw [HT.out]; rfl, hnc, by rw [HT.out]; exact HR.out.below hB1, hB1⟩
    | false =>
      obtain ⟨p, HP⟩ : ∃ p, Hid (p = place xs x) := ⟨_, Lib.hid rfl⟩
      have hpn : p ≤ n := by rw [HP.out, ← HR.out.len]; exact place_le xs x
      have HS : Hid (Stands xs x p) := Lib.hid (by rw [HP.out]; exact stands_place x HRise.out)
      have HT := Lib.hid (show giveOf xs x = (insAt xs p x, 0) from by rw [HP.out]; simp [giveOf, hin, hc, isBlock]; omega)
      have HI := Lib.hid hin
      clear hin
      obtain ⟨i0, hi0, hz0, hz1, hz2⟩ := info_parts int_info
      go_enter Try.func14, Try.ntmps14
      go_wp2_with fail
      refine (refCheck_any A n c xs _ HR.out (by omega)).mono ?_
      rw [hc]
      rintro e wo ⟨rfl, hBo⟩
      go_wp2_with fail
      refine (in_any A n c xs x _ (HR.out.below hBo) (by omega)).mono ?_
      rw [HI.out]
      rintro e w1 ⟨rfl, rfl⟩
      go_wp2
      go_loopw [7, 8, 9] (fun v q i wr => ∃ k : Nat, k ≤ n ∧ i = .int .i64 k ∧ q = .bool (decide (p < k)) ∧ wr.ownsRow wo.heap.size 3 1 v (gOut xs x p k).length (ints (gOut xs x p k)) ∧ Below wo.heap.size wo wr) (fun _ _ i _ => n - (intOf i).toNat)
      case atStart => exact ⟨0, by omega, rfl, by simp, ⟨by simp, .inl ⟨rfl, rfl⟩⟩, Below.refl _ _⟩
      case round =>
        obtain ⟨k, hk, rfl, rfl, hown, hB⟩ := hrel
        have HO := Lib.hid hown
        clear hown
        have HL := Lib.hid (show (gOut xs x p k).length ≤ n + 1 from by have := gOut_len xs x p k; rw [HR.out.len] at this; exact this)
        by_cases hlt : k < n
        · obtain ⟨ad, y, rfl, hb, hx, hcell0⟩ := (HR.out.below hBo).at_ hlt
          have hcell : wr.cell? (ad.add k) = some (.int .i64 y) := (hB.cell (by rw [add_block]; exact hb)).trans hcell0
          have HC0 := Lib.hid hcell0
          clear hcell0
          have HX := Lib.hid hx
          clear hx
          by_cases hkp : k < p
          · have hyx : y < x := HS.out.1 k y hkp HX.out
            have hd1 : decide (p < k) = false := by simp; omega
            have hd2 : decide (x < y) = false := by simp; omega
            have HF := Lib.hid (gOut_lt (x := x) hkp HX.out)
            have hd3 : decide (p < k + 1) = false := by simp; omega
            rw [hd1]
            go_wp2_with (first
              | (at_builtin
                 refine wpList_append_any _ rfl _ _ _ rfl wo.heap.size 3 i0 _ 1 8 Try.underlying22 hi0 hz0 hz1 hz2 rfl (by omega) _ _ _ rfl (HO.out.alloc _) _ (some ⟨wr.heap.size, 0, none⟩) 1 1 (ints [y]) rfl (lit_reads _ _) (ints_one _) (by have := HL.out; simp only [maxLen]; omega) (by have := HL.out; omega) (by have := hB.size; simp; omega) ?_
                 intro v2 w2 hown2 hg2 hat2))
            refine ⟨⟨k + 1, by omega, by go_num, by rw [hd3], ?_, (hB.alloc hB.size _).grown hg2 (hB.alloc hB.size _).size (fun g hg => own_ge HO.out hg)⟩, by simp [intOf]; omega⟩
            rw [HF.out, List.length_append]
            have e : ints (gOut xs x p k ++ [y]) = ints (gOut xs x p k) ++ ints [y] := by simp
            rw [e]
            exact hown2
          · by_cases hkp2 : k = p
            · have hyx : x < y := by
                have h1 := HS.out.2 k y (by omega) HX.out
                have h2 : y ≠ x := by
                  intro he
                  have := HI.out
                  have h3 : isIn xs x = true := by rw [isIn_iff, ← he]; exact List.mem_of_getElem? HX.out
                  rw [h3] at this
                  cases this
                omega
              have hd1 : decide (p < k) = false := by simp; omega
              have hd2 : decide (x < y) = true := by simp; omega
              have HF := Lib.hid (show gOut xs x p (k + 1) = (gOut xs x p k ++ [x]) ++ [y] from by rw [hkp2]; exact gOut_eq (hkp2 ▸ HX.out))
              have hd3 : decide (p < k + 1) = true := by simp; omega
              rw [hd1]
              clear hkp2
              go_wp2_with (first
                | (at_builtin
                   refine wpList_append_any _ rfl (.tmp 44) (.tmp 46) _ rfl wo.heap.size 3 i0 _ 1 8 Try.underlying22 hi0 hz0 hz1 hz2 rfl (by omega) _ _ _ rfl (HO.out.alloc _) _ (some ⟨wr.heap.size, 0, none⟩) 1 1 (ints [x]) rfl (lit_reads _ _) (ints_one _) (by have := HL.out; simp only [maxLen]; omega) (by have := HL.out; omega) (by have := hB.size; simp; omega) ?_
                   intro v2 w2 hown2 hg2 hat2
                   have hB2 := (hB.alloc hB.size (.cells #[.int .i64 x] 3)).grown hg2 (hB.alloc hB.size _).size (fun g hg => own_ge HO.out hg)
                   have hown2' : w2.ownsRow wo.heap.size 3 1 v2 ((gOut xs x p k).length + 1) (ints (gOut xs x p k ++ [x])) := by rw [show ints (gOut xs x p k ++ [x]) = ints (gOut xs x p k) ++ ints [x] from by simp]; exact hown2
                   have HO2 := Lib.hid hown2'
                   clear hown2 hown2'
                   have hcell2 : w2.cell? (ad.add k) = some (.int .i64 y) := (hB2.cell (by rw [add_block]; exact hb)).trans HC0.out)
                | (at_builtin
                   refine wpList_append_any _ rfl (.tmp 48) (.tmp 53) _ rfl wo.heap.size 3 i0 _ 1 8 Try.underlying22 hi0 hz0 hz1 hz2 rfl (by omega) _ _ _ rfl (HO2.out.alloc _) _ (some ⟨w2.heap.size, 0, none⟩) 1 1 (ints [y]) rfl (lit_reads _ _) (ints_one _) (by have := HL.out; simp only [maxLen]; omega) (by have := HL.out; omega) (by have := hB2.size; simp; omega) ?_
                   intro v3 w3 hown3 hg3 hat3))
              refine ⟨⟨k + 1, by omega, by go_num, by rw [hd3], ?_, (hB2.alloc hB2.size _).grown hg3 (hB2.alloc hB2.size _).size (fun g hg => own_ge HO2.out hg)⟩, by simp [intOf]; omega⟩
              rw [HF.out, List.length_append, List.length_append]
              rw [show ints ((gOut xs x p k ++ [x]) ++ [y]) = ints (gOut xs x p k ++ [x]) ++ ints [y] from by simp]
              exact hown3
            · have hd1 : decide (p < k) = true := by simp; omega
              have hd2 : decide (x < y) = true := by
                have h1 := HS.out.2 k y (by omega) HX.out
                have h2 : y ≠ x := by
                  intro he
                  have := HI.out
                  have h3 : isIn xs x = true := by rw [isIn_iff, ← he]; exact List.mem_of_getElem? HX.out
                  rw [h3] at this
                  cases this
                simp; omega
              have HF := Lib.hid (gOut_gt (x := x) (show p < k by omega) HX.out)
              have hd3 : decide (p < k + 1) = true := by simp; omega
              rw [hd1]
              go_wp2_with (first
                | (at_builtin
                   refine wpList_append_any _ rfl (.tmp 48) (.tmp 53) _ rfl wo.heap.size 3 i0 _ 1 8 Try.underlying22 hi0 hz0 hz1 hz2 rfl (by omega) _ _ _ rfl (HO.out.alloc _) _ (some ⟨wr.heap.size, 0, none⟩) 1 1 (ints [y]) rfl (lit_reads _ _) (ints_one _) (by have := HL.out; simp only [maxLen]; omega) (by have := HL.out; omega) (by have := hB.size; simp; omega) ?_
                   intro v2 w2 hown2 hg2 hat2))
              refine ⟨⟨k + 1, by omega, by go_num, by rw [hd3], ?_, (hB.alloc hB.size _).grown hg2 (hB.alloc hB.size _).size (fun g hg => own_ge HO.out hg)⟩, by simp [intOf]; omega⟩
              rw [HF.out, List.length_append]
              rw [show ints (gOut xs x p k ++ [y]) = ints (gOut xs x p k) ++ ints [y] from by simp]
              exact hown2
        · obtain rfl : k = n := by omega
          by_cases hkp : p < k
          · have hd1 : decide (p < k) = true := by simp; omega
            have HF := Lib.hid (show gOut xs x p k = insAt xs p x from by rw [gOut, if_neg (by omega), List.take_of_length_le (by rw [HR.out.len]; omega)])
            rw [hd1]
            go_wp2
            obtain ⟨A1, c1, rfl, hc1, hr1⟩ := own_cap HO.out
            go_ret2
            exact ⟨A1, _, c1, by rw [HT.out]; rfl, hc1, by rw [HT.out, ← HF.out]; exact hr1, hBo.next hB⟩
          · have hd1 : decide (p < k) = false := by simp; omega
            have HF := Lib.hid (show gOut xs x p k ++ [x] = insAt xs p x from by
              have hpk : p = k := by omega
              rw [gOut, if_pos (by omega), insAt, hpk, List.drop_eq_nil_of_le (by rw [HR.out.len]; omega)])
            rw [hd1]
            go_wp2_with (first
              | (at_builtin
                 refine wpList_append_any _ rfl (.tmp 57) (.tmp 59) _ rfl wo.heap.size 3 i0 _ 1 8 Try.underlying22 hi0 hz0 hz1 hz2 rfl (by omega) _ _ _ rfl (HO.out.alloc _) _ (some ⟨wr.heap.size, 0, none⟩) 1 1 (ints [x]) rfl (lit_reads _ _) (ints_one _) (by have := HL.out; simp only [maxLen]; omega) (by have := HL.out; omega) (by have := hB.size; simp; omega) ?_
                 intro v2 w2 hown2 hg2 hat2))
            have hB2 := (hB.alloc hB.size (.cells #[.int .i64 x] 3)).grown hg2 (hB.alloc hB.size _).size (fun g hg => own_ge HO.out hg)
            rw [show ints (gOut xs x p k) ++ ints [x] = ints (insAt xs p x) from by rw [← HF.out]; simp] at hown2
            obtain ⟨A1, c1, rfl, hc1, hr1⟩ := own_cap hown2
            go_ret2
            exact ⟨A1, _, c1, by rw [HT.out]; rfl, hc1, by rw [HT.out]; exact hr1, hBo.next hB2⟩
end Go.Proofs.Ytjidfnogmedgnaa
