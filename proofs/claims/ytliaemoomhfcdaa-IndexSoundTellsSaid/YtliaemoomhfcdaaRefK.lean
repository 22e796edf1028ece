/- The walks of the reference's superblock, leaves, and check of an arena. -/
import Derived.Test.YtliaemoomhfcdaaRefRW
import Derived.Test.YtliaemoomhfcdaaMF
namespace Go.Proofs.Ytliaemoomhfcdaa
open Go.RowKit Go.Proofs.YtliaemoomhfcdaaW.PrintWords
set_option maxHeartbeats 2000000
set_option maxRecDepth 100000
set_option linter.unusedVariables false
set_option linter.unusedSimpArgs false
attribute [local go_sem] le_flip

theorem rin_any (A : Option Addr) (n c : Nat) (xs : List Int) (x : Int) (w : World) (h : RI w A n xs) (hn : n ≤ 1000000000) :
    Calls Try.prog 25 #[.slice A n c, .int .i64 x] w fun e w' => e = .returned (.bool (xs.contains x)) ∧ w = w' := by
  have HR := Lib.hid h
  have hl := h.len
  have HN := Lib.hid (fun (hx : ∀ j y, j < n → xs[j]? = some y → ¬ y = x) => (show xs.contains x = false by
    rw [Bool.eq_false_iff]
    intro hc
    rw [List.contains_iff_mem] at hc
    obtain ⟨j, hj, e⟩ := List.mem_iff_getElem.1 hc
    exact hx j x (by omega) (by rw [List.getElem?_eq_getElem hj, e]) rfl))
  have HY := Lib.hid (fun (j : Nat) (hx : xs[j]? = some x) => (show xs.contains x = true by rw [List.contains_iff_mem]; exact List.mem_of_getElem? hx))
  generalize xs.contains x = r at HN HY ⊢
  clear h hl
  go_enter Try.func25, Try.ntmps25
  go_wp2
  go_loopw [5] (fun i wr => ∃ k : Nat, k ≤ n ∧ i = .int .i64 k ∧ Hid (∀ j y, j < k → xs[j]? = some y → ¬ y = x) ∧ wr = w) (fun i _ => n - (intOf i).toNat)
  case atStart => exact ⟨0, by omega, rfl, Lib.hid (fun j y hj => by omega), rfl⟩
  case round =>
    obtain ⟨k, hk, rfl, HF, rfl⟩ := hrel
    by_cases hlt : k < n
    · obtain ⟨ad, y, rfl, hb, hy, hat⟩ := HR.out.at_ hlt
      have HYY := Lib.hid hy
      clear hy
      by_cases hyx : y = x
      · have hr := HY.out k (hyx ▸ HYY.out)
        subst hr
        go_wp2
        go_ret
        exact ⟨rfl, rfl⟩
      · have HNE := Lib.hid hyx
        go_wp2
        go_roundw
        case rel =>
          refine ⟨k + 1, by omega, by go_num, Lib.hid (fun j z hj hz => ?_), trivial⟩
          by_cases hj2 : j = k
          · subst hj2; rw [HYY.out] at hz; injection hz with hz; rw [← hz]; exact HNE.out
          · exact HF.out j z (by omega) hz
        case measure => simp [intOf]; omega
    · obtain rfl : k = n := by omega
      have hr := HN.out HF.out
      subst hr
      go_wp2
      go_ret
      exact ⟨rfl, rfl⟩
theorem rmay_any (b r : Int) (w : World) : Calls Try.prog 117 #[.int .i64 b, .int .i64 r] w fun e w' => e = .returned (.bool (superMay b r)) ∧ w = w' := by
  unfold superMay
  by_cases h1 : b ≥ 2
  rotate_left
  · rw [decide_eq_false (show ¬ 2 ≤ b from h1), Bool.false_and, Bool.false_and, Bool.false_and]
    go_enter Try.func117, Try.ntmps117
    go_wp2
    go_ret
    exact ⟨rfl, rfl⟩
  rw [decide_eq_true (show 2 ≤ b from h1), Bool.true_and]
  by_cases h2 : b ≤ 256
  rotate_left
  · rw [decide_eq_false h2, Bool.false_and, Bool.false_and]
    go_enter Try.func117, Try.ntmps117
    go_wp2
    go_ret
    exact ⟨rfl, rfl⟩
  rw [decide_eq_true h2, Bool.true_and]
  by_cases h3 : r ≥ 1
  rotate_left
  · rw [decide_eq_false (show ¬ 1 ≤ r from h3), Bool.false_and]
    go_enter Try.func117, Try.ntmps117
    go_wp2
    go_ret
    exact ⟨rfl, rfl⟩
  rw [decide_eq_true (show 1 ≤ r from h3), Bool.true_and]
  go_enter Try.func117, Try.ntmps117
  go_wp2
  go_ret
  exact ⟨rfl, rfl⟩
def superL (b r : Int) : List Int := [7015, b, sumOf [7015, b], r, 0, 0, 0, 0, 0, 0, 0, 0, 0, 0, 0, 0]
theorem rswords_any (b r : Int) (w : World) : Calls Try.prog 96 #[.int .i64 b, .int .i64 r] w (OwnTwo w (if superMay b r = true then superL b r else []) (if superMay b r = true then 0 else 1)) := by
  have HM := Lib.hid (rmay_any b r)
  generalize superMay b r = q at HM ⊢
  cases q with
  | false =>
    rw [if_neg (by simp), if_neg (by simp)]
    go_enter Try.func96, Try.ntmps96
    go_wp2_with ((go_at_call 117; refine (HM.out _).mono ?_; rintro e w1 ⟨rfl, rfl⟩))
    go_ret2
    exact ⟨_, rfl, World.ownsRow_nil _ _ _ _, Below.refl _ _⟩
  | true =>
    rw [if_pos rfl, if_pos rfl]
    unfold superL
    have HOF := Lib.hid (fun (A : Option Addr) (c : Nat) (W : World) (h : RI W A 2 [7015, b]) => rof_call A 2 c [7015, b] W h (by omega))
    generalize sumOf [7015, b] = sm at HOF ⊢
    go_enter Try.func96, Try.ntmps96
    go_wp2_with (first
      | (go_at_call 117; refine (HM.out _).mono ?_; rintro e w1 ⟨rfl, rfl⟩)
      | (go_at_call 110; refine (HOF.out _ _ _ (RI.own (xs := [7015, b]) (World.ownsRow_lit w #[.int .i64 7015, .int .i64 b] 2 (Nat.le_refl _) (by simp [maxLen]) rfl))).mono ?_; rintro e w2 ⟨rfl, hB2⟩))
    have hb2 := ((Below.refl w.heap.size w).alloc (Nat.le_refl _) (.cells #[.int .i64 7015, .int .i64 b] 3)).next hB2
    go_ret2
    exact ⟨_, rfl, World.ownsRow_lit w2 #[.int .i64 7015, .int .i64 b, .int .i64 sm, .int .i64 r, .int .i64 0, .int .i64 0, .int .i64 0, .int .i64 0, .int .i64 0, .int .i64 0, .int .i64 0, .int .i64 0, .int .i64 0, .int .i64 0, .int .i64 0, .int .i64 0] 16 hb2.size (by simp [maxLen]) rfl, hb2.alloc hb2.size _⟩
/-- The words that a superblock's reading asks for. -/
theorem superRead_is (ws : List Int) (h32 : 32 ≤ ws.length) (b r : Int) (hb : ws[1]? = some b) (hr : ws[3]? = some r) :
    superRead ws = if superMay b r = true then (if b = (ws.length : Int) / 16 then (if (superL b r == ws.take 16) = true then (b, r, 0) else (0, 0, 80)) else (0, 0, 80)) else (0, 0, 80) := by
  obtain ⟨f, hf⟩ : ∃ f, f = ws.take 16 := ⟨_, rfl⟩
  have hl : f.length = 16 := by rw [hf, List.length_take]; omega
  have hg : ∀ i, i < 16 → f[i]? = ws[i]? := by intro i hi; rw [hf, List.getElem?_take, if_pos hi]
  have e0 : rd ws 0 = f.getD 0 0 := by show ws.getD 0 0 = _; rw [List.getD_eq_getElem?_getD, List.getD_eq_getElem?_getD, hg 0 (by omega)]
  have e1 : rd ws 1 = b := by show ws.getD 1 0 = _; rw [List.getD_eq_getElem?_getD, hb]; rfl
  have e2 : rd ws 2 = f.getD 2 0 := by show ws.getD 2 0 = _; rw [List.getD_eq_getElem?_getD, List.getD_eq_getElem?_getD, hg 2 (by omega)]
  have e3 : rd ws 3 = r := by show ws.getD 3 0 = _; rw [List.getD_eq_getElem?_getD, hr]; rfl
  unfold superRead
  rw [if_neg (by omega), e0, e1, e2, e3, ← hf]
  have hb1 : f[1]? = some b := (hg 1 (by omega)).trans hb
  have hr1 : f[3]? = some r := (hg 3 (by omega)).trans hr
  obtain ⟨f0, f1, f2, f3, f4, f5, f6, f7, f8, f9, f10, f11, f12, f13, f14, f15, rfl⟩ : ∃ f0 f1 f2 f3 f4 f5 f6 f7 f8 f9 f10 f11 f12 f13 f14 f15, f = [f0, f1, f2, f3, f4, f5, f6, f7, f8, f9, f10, f11, f12, f13, f14, f15] := by
    match f, hl with
    | [g0, g1, g2, g3, g4, g5, g6, g7, g8, g9, g10, g11, g12, g13, g14, g15], _ => exact ⟨g0, g1, g2, g3, g4, g5, g6, g7, g8, g9, g10, g11, g12, g13, g14, g15, rfl⟩
  obtain rfl : f1 = b := by simpa using hb1
  obtain rfl : f3 = r := by simpa using hr1
  by_cases hm : superMay f1 f3 = true
  · rw [if_pos hm]
    by_cases hq : f1 = (ws.length : Int) / 16
    · rw [if_pos hq]
      unfold superL
      have key : (f0 = 7015 ∧ f2 = sumOf [7015, f1] ∧ ([f0, f1, f2, f3, f4, f5, f6, f7, f8, f9, f10, f11, f12, f13, f14, f15].drop 4).all (· == 0) = true) ↔ ([7015, f1, sumOf [7015, f1], f3, 0, 0, 0, 0, 0, 0, 0, 0, 0, 0, 0, 0] == [f0, f1, f2, f3, f4, f5, f6, f7, f8, f9, f10, f11, f12, f13, f14, f15]) = true := by
        simp only [List.drop_succ_cons, List.drop_zero, List.all_cons, List.all_nil, Bool.and_eq_true, beq_iff_eq, List.cons.injEq, and_true, true_and]
        constructor
        · rintro ⟨h0, h2, h4, h5, h6, h7, h8, h9, h10, h11, h12, h13, h14, h15⟩; simp [*]
        · rintro ⟨h0, h2, h4, h5, h6, h7, h8, h9, h10, h11, h12, h13, h14, h15⟩; exact ⟨h0.symm, h2.symm, h4.symm, h5.symm, h6.symm, h7.symm, h8.symm, h9.symm, h10.symm, h11.symm, h12.symm, h13.symm, h14.symm, h15.symm⟩
      by_cases hk : ([7015, f1, sumOf [7015, f1], f3, 0, 0, 0, 0, 0, 0, 0, 0, 0, 0, 0, 0] == [f0, f1, f2, f3, f4, f5, f6, f7, f8, f9, f10, f11, f12, f13, f14, f15]) = true
      · obtain ⟨k0, k2, k4⟩ := key.2 hk
        rw [if_pos hk, if_pos ⟨k0, k2, hm, hq, k4⟩]
      · rw [if_neg hk, if_neg (fun h => hk (key.1 ⟨h.1, h.2.1, h.2.2.2.2⟩))]
    · rw [if_neg hq, if_neg (fun h => hq h.2.2.2.1)]
  · rw [if_neg hm, if_neg (fun h => hm h.2.2.1)]
theorem rsread_any (A : Option Addr) (c : Nat) (ws : List Int) (w : World) (h : RI w A ws.length ws) (hn : ws.length ≤ 60000) (hc : ws.length ≤ c) :
    Calls Try.prog 63 #[.slice A ws.length c] w fun e w' => e = .returned (.tuple #[.int .i64 (superRead ws).1, .int .i64 (superRead ws).2.1, .int .i64 (superRead ws).2.2]) ∧ Below w.heap.size w w' := by
  by_cases h32 : (ws.length : Int) < 32
  · have hr : superRead ws = (0, 0, 80) := by unfold superRead; rw [if_pos (by omega)]
    rw [hr]
    go_enter Try.func63, Try.ntmps63
    go_wp2
    go_ret3
    exact ⟨rfl, Below.refl _ _⟩
  obtain ⟨n, hnn⟩ : ∃ n, n = ws.length := ⟨_, rfl⟩
  rw [← hnn] at h hn hc h32 ⊢
  obtain ⟨ad, x0, rfl, hlt, _, _⟩ := h.at_ (k := 0) (by omega)
  obtain ⟨b, r, hb, hr⟩ : ∃ b r, ws[1]? = some b ∧ ws[3]? = some r := ⟨ws[1], ws[3], List.getElem?_eq_getElem (by omega), List.getElem?_eq_getElem (by omega)⟩
  have d1 : w.cell? ⟨ad.block, ad.off + 1, none⟩ = some (.int .i64 b) := h.rd_ hb
  have d3 : w.cell? ⟨ad.block, ad.off + 3, none⟩ = some (.int .i64 r) := h.rd_ hr
  rw [superRead_is ws (by omega) b r hb hr, ← hnn]
  have HT := Lib.hid (h.take (k := 16) (by omega))
  have HWD := Lib.hid (rswords_any b r)
  obtain ⟨q, hq⟩ : ∃ q : Bool, q = (superL b r == ws.take 16) := ⟨_, rfl⟩
  have hL : (superL b r).length = 16 := rfl
  rw [← hq]
  generalize superL b r = L at HWD hq hL ⊢
  have HQ := Lib.hid hq
  have HL := Lib.hid hL
  have QK := Lib.hid (fun (W : World) (h : Below w.heap.size w W) => (show W.cell? ⟨ad.block, ad.off + 1, none⟩ = some (.int .i64 b) ∧ W.cell? ⟨ad.block, ad.off + 3, none⟩ = some (.int .i64 r) from ⟨(h.cell (p := ⟨ad.block, ad.off + 1, none⟩) hlt).trans d1, (h.cell (p := ⟨ad.block, ad.off + 3, none⟩) hlt).trans d3⟩))
  have Q1 := Lib.hid (show Below w.heap.size w w.drew from (Below.refl _ _).drew)
  have mixed : Try.prog.follows .mixedOrders = true := by kernel_rfl
  have i1 : (1 : Int) < (n : Int) := by omega
  have i3 : (3 : Int) < (n : Int) := by omega
  have i16 : (16 : Int) ≤ (c : Int) := by omega
  generalize superMay b r = sm at HWD ⊢
  clear h hq hL hb hr hnn hc
  cases sm with
  | false =>
    rw [if_neg (by simp)]
    rw [if_neg (by simp), if_neg (by simp)] at HWD
    go_enter Try.func63, Try.ntmps63
    go_upto_region 3 with fail
    go_region_held3 (fun w' : World => w'.cell? ⟨ad.block, ad.off + 1, none⟩ = some (.int .i64 b) ∧ w'.cell? ⟨ad.block, ad.off + 3, none⟩ = some (.int .i64 r)) (first | go_keep | exact QK.out _ HB1.out) ((go_at_call 96; refine (HWD.out _).mono ?_; rintro e w1 ⟨v1, rfl, ho1, hB1⟩; obtain ⟨A1, c1, rfl, _⟩ := own_form1 ho1; have HB1 := Lib.hid (Q1.out.next hB1); clear hB1))
    all_goals
      go_wp2_with fail
      go_ret3
      exact ⟨rfl, HB1.out⟩
  | true =>
    rw [if_pos rfl]
    rw [if_pos rfl, if_pos rfl] at HWD
    by_cases hbn : b = (n : Int) / 16
    rotate_left
    · rw [if_neg hbn]
      have hb2 := bne_t hbn
      clear hbn
      go_enter Try.func63, Try.ntmps63
      go_upto_region 3 with fail
      go_region_held3 (fun w' : World => w'.cell? ⟨ad.block, ad.off + 1, none⟩ = some (.int .i64 b) ∧ w'.cell? ⟨ad.block, ad.off + 3, none⟩ = some (.int .i64 r)) (first | go_keep | exact QK.out _ HB1.out) ((go_at_call 96; refine (HWD.out _).mono ?_; rintro e w1 ⟨v1, rfl, ho1, hB1⟩; obtain ⟨A1, c1, rfl, _⟩ := own_form1 ho1; have HB1 := Lib.hid (Q1.out.next hB1); clear hB1))
      all_goals
        obtain ⟨k1, k3⟩ := QK.out _ HB1.out
        clear d1 d3
        go_wp2_with fail
        go_ret3
        exact ⟨rfl, HB1.out⟩
    · rw [if_pos hbn]
      have hb2 := bne_f hbn
      have HBN := Lib.hid hbn
      clear hbn
      cases q with
      | false =>
        rw [if_neg (by simp)]
        go_enter Try.func63, Try.ntmps63
        go_upto_region 3 with fail
        go_region_held3 (fun w' : World => w'.cell? ⟨ad.block, ad.off + 1, none⟩ = some (.int .i64 b) ∧ w'.cell? ⟨ad.block, ad.off + 3, none⟩ = some (.int .i64 r)) (first | go_keep | exact QK.out _ HB1.out) ((go_at_call 96; refine (HWD.out _).mono ?_; rintro e w1 ⟨v1, rfl, ho1, hB1⟩; obtain ⟨A1, c1, rfl, hc1, hri1⟩ := own_cap ho1; have HR1 := Lib.hid hri1; have HB1 := Lib.hid (Q1.out.next hB1); clear hB1 hri1))
        all_goals
          obtain ⟨k1, k3⟩ := QK.out _ HB1.out
          clear d1 d3
          go_wp2_with ((go_at_call 78; refine (nums_call A1 c1 L (some ad) 16 c _ false _ (C_of_RI HR1.out (by rw [HL.out]; omega)) hc1 (HT.out.below HB1.out) (by omega) (by rw [HL.out]; omega) (by omega) HQ.out).mono ?_; rintro e w6 ⟨rfl, hD6⟩))
          go_ret3
          exact ⟨rfl, HB1.out.next hD6.below⟩
      | true =>
        rw [if_pos rfl]
        go_enter Try.func63, Try.ntmps63
        go_upto_region 3 with fail
        go_region_held3 (fun w' : World => w'.cell? ⟨ad.block, ad.off + 1, none⟩ = some (.int .i64 b) ∧ w'.cell? ⟨ad.block, ad.off + 3, none⟩ = some (.int .i64 r)) (first | go_keep | exact QK.out _ HB1.out) ((go_at_call 96; refine (HWD.out _).mono ?_; rintro e w1 ⟨v1, rfl, ho1, hB1⟩; obtain ⟨A1, c1, rfl, hc1, hri1⟩ := own_cap ho1; have HR1 := Lib.hid hri1; have HB1 := Lib.hid (Q1.out.next hB1); clear hB1 hri1))
        all_goals
          obtain ⟨k1, k3⟩ := QK.out _ HB1.out
          clear d1 d3
          go_upto_region 6 with ((go_at_call 78; refine (nums_call A1 c1 L (some ad) 16 c _ true _ (C_of_RI HR1.out (by rw [HL.out]; omega)) hc1 (HT.out.below HB1.out) (by omega) (by rw [HL.out]; omega) (by omega) HQ.out).mono ?_; rintro e w6 ⟨rfl, hD6⟩))
          have HB6 := Lib.hid (HB1.out.next hD6.below)
          obtain ⟨m1, m3⟩ := QK.out _ HB6.out
          clear k1 k3
          go_region_held3 (fun w' : World => w'.cell? ⟨ad.block, ad.off + 1, none⟩ = some (.int .i64 b) ∧ w'.cell? ⟨ad.block, ad.off + 3, none⟩ = some (.int .i64 r)) (go_keep) (fail)
          all_goals
            go_wp2_with fail
            go_ret3
            exact ⟨rfl, HB6.out.drew⟩
theorem rlow_any (A : Option Addr) (c : Nat) (ws : List Int) (b : Int) (w : World) (h : RI w A ws.length ws) (hn : ws.length ≤ 60000) (hc : ws.length ≤ c) :
    Calls Try.prog 42 #[.slice A ws.length c, .int .i64 b] w fun e w' => e = .returned (.tuple #[.string (lowRead ws b).1, .int .i64 (lowRead ws b).2]) ∧ Below w.heap.size w w' := by
  have HC := Lib.hid h
  have HN := Lib.hid (rnode_any A c ws b w h hn hc)
  have HRD := Lib.hid (fun x W hW => rrec_any A c ws x W hW hn hc)
  obtain ⟨r, hr⟩ : ∃ r, r = lowRead ws b := ⟨_, rfl⟩
  rw [← hr]
  unfold lowRead lowOfP at hr
  generalize nodeRead ws b = nd at HN hr
  obtain ⟨⟨lv, tu, ne, lo, sl⟩, er⟩ := nd
  simp only at hr
  unfold NodePost at HN
  by_cases he : er = 0
  rotate_left
  · rw [if_neg he] at hr
    subst hr
    have he2 := bne_t he
    clear he h
    go_enter Try.func42, Try.ntmps42
    go_wp2_with ((go_at_call 41; refine HN.out.mono ?_; rintro e w1 ⟨v1, rfl, hR1, hB1⟩; obtain ⟨A1, c1, rfl⟩ := Kd.R_slice hR1))
    go_ret2
    exact ⟨rfl, hB1.alloc hB1.size _⟩
  subst he
  rw [if_pos rfl] at hr
  clear h
  by_cases h0 : lo = 0
  · subst h0
    rw [if_pos rfl] at hr
    subst hr
    go_enter Try.func42, Try.ntmps42
    go_wp2_with ((go_at_call 41; refine HN.out.mono ?_; rintro e w1 ⟨v1, rfl, hR1, hB1⟩; obtain ⟨A1, c1, rfl⟩ := Kd.R_slice hR1))
    go_ret2
    exact ⟨rfl, hB1.alloc hB1.size _⟩
  rw [if_neg h0] at hr
  have h02 := beq_f h0
  have HX := Lib.hid (HRD.out lo)
  clear HRD h0
  unfold RecPost at HX
  generalize recRead ws lo = rc at HX hr
  obtain ⟨⟨kd, ky, va, ch⟩, er⟩ := rc
  simp only at hr
  by_cases he : er = 0
  rotate_left
  · rw [if_neg he] at hr
    subst hr
    have he2 := bne_t he
    clear he
    go_enter Try.func42, Try.ntmps42
    go_wp2_with (first
      | (go_at_call 41; refine HN.out.mono ?_; rintro e w1 ⟨v1, rfl, hR1, hB1⟩; obtain ⟨A1, c1, rfl⟩ := Kd.R_slice hR1)
      | (go_at_call 43; refine (HX.out _ (HC.out.below (hB1.alloc hB1.size _))).mono ?_; rintro e w2 ⟨rfl, hB2⟩))
    have hb3 := (hB1.alloc hB1.size _).next hB2
    go_ret2
    exact ⟨rfl, hb3.alloc hb3.size _⟩
  subst he
  rw [if_pos rfl] at hr
  subst hr
  go_enter Try.func42, Try.ntmps42
  go_wp2_with (first
    | (go_at_call 41; refine HN.out.mono ?_; rintro e w1 ⟨v1, rfl, hR1, hB1⟩; obtain ⟨A1, c1, rfl⟩ := Kd.R_slice hR1)
    | (go_at_call 43; refine (HX.out _ (HC.out.below (hB1.alloc hB1.size _))).mono ?_; rintro e w2 ⟨rfl, hB2⟩))
  have hb3 := (hB1.alloc hB1.size _).next hB2
  go_ret2
  exact ⟨rfl, hb3.alloc hb3.size _⟩
def OwnRowP (w : World) (l : List Int) (e : Ending) (w' : World) : Prop := ∃ v, e = .returned v ∧ w'.ownsRow w.heap.size 3 1 v l.length (ints l) ∧ Below w.heap.size w w'
theorem plain_le (l : List Int) : (plainOf l).length ≤ l.length := by
  have hf : ∀ (t : List Int) (p : Int), (plainFrom p t).length ≤ t.length := by
    intro t
    induction t with
    | nil => intro p; exact Nat.le_refl _
    | cons y t ih =>
      intro p
      rw [plainFrom]
      split
      · exact Nat.le_trans (ih p) (by simp)
      · simp only [List.length_cons]; exact Nat.succ_le_succ (ih y)
  cases l with
  | nil => exact Nat.le_refl _
  | cons a t => simp only [plainOf, List.length_cons]; exact Nat.succ_le_succ (hf t a)
theorem ints_snoc (l : List Int) (x : Int) : ints (l ++ [x]) = ints l ++ [.int .i64 x] := by unfold ints; rw [List.map_append]; rfl
theorem rplain_any (A : Option Addr) (n c : Nat) (xs : List Int) (w : World) (h : RI w A n xs) (hn : n ≤ 1000000) :
    Calls Try.prog 116 #[.slice A n c] w (OwnRowP w (plainOf xs)) := by
  have HR := Lib.hid h
  have HL := Lib.hid h.len
  clear h
  obtain ⟨i0, hi0, hz0, hz1, hz2⟩ := info_parts int_info
  have mixed : Try.prog.follows .mixedOrders = true := by kernel_rfl
  go_enter Try.func116, Try.ntmps116
  go_wp2
  go_loopw [3, 4] (fun v i wr => ∃ k : Nat, k ≤ n ∧ i = .int .i64 k ∧ Hid (wr.ownsRow w.heap.size 3 1 v (plainOf (xs.take k)).length (ints (plainOf (xs.take k)))) ∧ Hid (Below w.heap.size w wr)) (fun _ i _ => n - (intOf i).toNat)
  case atStart => exact ⟨0, by omega, rfl, Lib.hid (World.ownsRow_nil _ _ _ _), Lib.hid (Below.refl _ _)⟩
  case round =>
    obtain ⟨k, hk, rfl, HO, HB⟩ := hrel
    obtain ⟨l, hl⟩ : ∃ l, l = plainOf (xs.take k) := ⟨_, rfl⟩
    have hpl : l.length ≤ 1000000 := by rw [hl]; exact Nat.le_trans (plain_le _) (by rw [List.length_take]; omega)
    rw [← hl] at HO
    obtain ⟨A2, c2, rfl, _⟩ := own_cap HO.out
    by_cases hlt : k < n
    · have HR2 := Lib.hid (HR.out.below HB.out)
      obtain ⟨ad, x, rfl, hb, hx, hat⟩ := HR2.out.at_ hlt
      have hsn : plainOf (xs.take (k + 1)) = l ++ (if (xs.take k).getLast? = some x then [] else [x]) := by rw [List.take_add_one, hx, hl]; exact plainOf_snoc _ _
      have hw2 : w.heap.size ≤ wr.heap.size := HB.out.size
      have HLL := Lib.hid hl
      clear hl
      rcases Nat.eq_zero_or_pos k with hk0 | hk0
      · subst hk0
        have HS := Lib.hid (show plainOf (xs.take (0 + 1)) = l ++ [x] by rw [hsn, List.take_zero]; rfl)
        have d0 : wr.cell? ad = some (.int .i64 x) := by rw [← hat, Addr.add_zero']
        clear hat hsn hx
        go_upto_region 5 with fail
        go_quiet (fail)
        generalize hW2 : wr.drewN nq = W2 at *
        have HO2 := Lib.hid (show W2.ownsRow w.heap.size 3 1 (.slice A2 l.length c2) l.length (ints l) by subst hW2; exact HO.out)
        have HB2 := Lib.hid (show Below w.heap.size w W2 by subst hW2; exact ⟨HB.out.os, HB.out.tape, HB.out.output, HB.out.size, HB.out.block⟩)
        have hw3 : w.heap.size ≤ W2.heap.size := HB2.out.size
        have d1 : W2.cell? ad = some (.int .i64 x) := by subst hW2; exact d0
        clear hW2
        go_wp2_with (first
          | (at_builtin
             refine wpList_append_any _ rfl _ _ _ rfl w.heap.size 3 i0 _ 1 8 Try.underlying22 hi0 hz0 hz1 hz2 rfl (by omega) _ _ _ rfl ((own_alloc_ HO2.out) _) _ _ 1 1 [.int .i64 x] rfl (reads_one _ _ _) (by simp [Value.oneCell']) (by simp only [maxLen]; omega) (by omega) (by simp; omega) ?_
             intro v3 w3 hown3 hg3 hat3))
        have hb3 := (HB2.out.alloc HB2.out.size _).grown hg3 (by have := HB2.out.size; simp; omega) (fun q hq => own_ge HO2.out hq)
        rw [← ints_snoc, ← HS.out] at hown3
        have hl3 : (plainOf (xs.take (0 + 1))).length = l.length + 1 := by rw [HS.out]; simp
        rw [← hl3] at hown3
        go_roundw
        case rel => exact ⟨0 + 1, by omega, by go_num, Lib.hid hown3, Lib.hid hb3⟩
        case measure => simp [intOf]; omega
      · obtain ⟨m, hm⟩ : ∃ m, k = m + 1 := ⟨k - 1, by omega⟩
        have hmn : m < n := by omega
        obtain ⟨ad', y, e, hb', hy, hat'⟩ := HR2.out.at_ hmn
        injection e with e
        subst e
        have hgl : (xs.take k).getLast? = some y := by rw [hm, List.take_add_one, hy]; simp
        rw [hgl] at hsn
        have hs1 : IntKind.i64.wrap ((k : Int) - 1) = (m : Int) := by rw [IntKind.wrap_i64]; omega
        have hk1 : ((k : Int) == 0) = false := by rw [beq_eq_false_iff_ne]; omega
        clear hgl hx hy hm hk0
        by_cases hxy : x = y
        · subst hxy
          rw [if_pos rfl, List.append_nil] at hsn
          have HS := Lib.hid hsn
          clear hsn
          go_upto_region 5 with fail
          go_quiet (fail)
          generalize hW2 : wr.drewN nq = W2 at *
          have HO2 := Lib.hid (show W2.ownsRow w.heap.size 3 1 (.slice A2 l.length c2) l.length (ints l) by subst hW2; exact HO.out)
          have HB2 := Lib.hid (show Below w.heap.size w W2 by subst hW2; exact ⟨HB.out.os, HB.out.tape, HB.out.output, HB.out.size, HB.out.block⟩)
          have hw3 : w.heap.size ≤ W2.heap.size := HB2.out.size
          go_wp2_with fail
          go_roundw
          case rel => exact ⟨k + 1, by omega, by go_num, by rw [HS.out]; exact HO2, HB2⟩
          case measure => simp [intOf]; omega
        · rw [if_neg (fun e => hxy (by injection e with e; exact e.symm))] at hsn
          have HS := Lib.hid hsn
          have hne := bne_t hxy
          clear hsn hxy
          go_upto_region 5 with fail
          go_quiet (fail)
          generalize hW2 : wr.drewN nq = W2 at *
          have HO2 := Lib.hid (show W2.ownsRow w.heap.size 3 1 (.slice A2 l.length c2) l.length (ints l) by subst hW2; exact HO.out)
          have HB2 := Lib.hid (show Below w.heap.size w W2 by subst hW2; exact ⟨HB.out.os, HB.out.tape, HB.out.output, HB.out.size, HB.out.block⟩)
          have hw3 : w.heap.size ≤ W2.heap.size := HB2.out.size
          have d1 : W2.cell? (ad.add k) = some (.int .i64 x) := by subst hW2; exact hat
          clear hW2
          go_wp2_with (first
            | (at_builtin
               refine wpList_append_any _ rfl _ _ _ rfl w.heap.size 3 i0 _ 1 8 Try.underlying22 hi0 hz0 hz1 hz2 rfl (by omega) _ _ _ rfl ((own_alloc_ HO2.out) _) _ _ 1 1 [.int .i64 x] rfl (reads_one _ _ _) (by simp [Value.oneCell']) (by simp only [maxLen]; omega) (by omega) (by simp; omega) ?_
               intro v3 w3 hown3 hg3 hat3))
          have hb3 := (HB2.out.alloc HB2.out.size _).grown hg3 (by have := HB2.out.size; simp; omega) (fun q hq => own_ge HO2.out hq)
          rw [← ints_snoc, ← HS.out] at hown3
          have hl3 : (plainOf (xs.take (k + 1))).length = l.length + 1 := by rw [HS.out]; simp
          rw [← hl3] at hown3
          go_roundw
          case rel => exact ⟨k + 1, by omega, by go_num, Lib.hid hown3, Lib.hid hb3⟩
          case measure => simp [intOf]; omega
    · obtain rfl : k = n := by omega
      have hall : xs.take k = xs := by rw [List.take_of_length_le (by rw [HL.out]; omega)]
      rw [hall] at hl
      have HLL := Lib.hid hl
      clear hl hall
      go_wp2
      go_ret
      exact ⟨_, rfl, by rw [← HLL.out]; exact HO.out, HB.out⟩
def OwnTwoR (w : World) (r : List Int × Int) (e : Ending) (w' : World) : Prop := ∃ v, e = .returned (.tuple #[v, .int .i64 r.2]) ∧ w'.ownsRow w.heap.size 3 1 v r.1.length (ints r.1) ∧ Below w.heap.size w w'
theorem leavesAns_some {ws l : List Int} (h : leavesRead ws = some l) : leavesAns ws = (l, 0) := by unfold leavesAns; rw [h]
theorem leavesAns_none {ws : List Int} (h : leavesRead ws = none) : leavesAns ws = ([], 110) := by unfold leavesAns; rw [h]
theorem rleaves_any (A : Option Addr) (c : Nat) (ws : List Int) (w : World) (h : RI w A ws.length ws) (hn : ws.length ≤ 60000) (hc : ws.length ≤ c) :
    Calls Try.prog 65 #[.slice A ws.length c] w (OwnTwoR w (leavesAns ws)) := by
  have HC := Lib.hid h
  have HSU := Lib.hid (rsread_any A c ws w h hn hc)
  have HND := Lib.hid (fun x W hW => rnode_any A c ws x W hW hn hc)
  unfold NodePost at HND
  clear h
  obtain ⟨r, hr⟩ : ∃ r, r = leavesRead ws := ⟨_, rfl⟩
  have HNONE := Lib.hid (fun (e : r = none) => leavesAns_none (hr ▸ e))
  have HSOME := Lib.hid (fun l (e : r = some l) => leavesAns_some (hr ▸ e))
  generalize leavesAns ws = ans at HNONE HSOME ⊢
  unfold leavesRead at hr
  generalize superRead ws = sr at hr HSU
  obtain ⟨s1, s2, s3⟩ := sr
  simp only at hr HSU
  obtain ⟨i0, hi0, hz0, hz1, hz2⟩ := info_parts int_info
  by_cases hs : s3 = 0
  rotate_left
  · rw [if_neg hs] at hr
    have ha := HNONE.out hr
    have e1 := bne_t hs
    subst ha
    clear hr hs HNONE HSOME HND
    go_enter Try.func65, Try.ntmps65
    go_wp2_with ((go_at_call 63; refine HSU.out.mono ?_; rintro e w1 ⟨rfl, hB1⟩))
    go_ret2
    exact ⟨_, rfl, World.ownsRow_nil _ _ _ _, hB1⟩
  subst hs
  rw [if_pos rfl] at hr
  have HR := Lib.hid hr
  clear hr
  go_enter Try.func65, Try.ntmps65
  go_wp2_with ((go_at_call 63; refine HSU.out.mono ?_; rintro e w1 ⟨rfl, hB1⟩; have HB1 := Lib.hid hB1; clear hB1))
  go_loopw [7, 8] (fun v a wr => ∃ (n : Nat) (l : List Int) (at' : Int), a = .int .i64 at' ∧ Hid (wr.ownsRow w.heap.size 3 1 v l.length (ints l)) ∧ Hid (Below w.heap.size w wr) ∧ Hid (r = leavesGo ws n l at') ∧ Hid (LeavesOk ws n l)) (fun v _ _ => ws.length / 16 + 1 - sliceLen v)
  case atStart => exact ⟨ws.length / 16 + 1, [], 1, rfl, Lib.hid (World.ownsRow_nil _ _ _ _), HB1, HR, Lib.hid ⟨rfl, List.nodup_nil, by simp⟩⟩
  case round =>
    obtain ⟨n, l, at1, rfl, HO, HB, HG, HL⟩ := hrel
    obtain ⟨m, rfl⟩ := HL.out.pos
    obtain ⟨A2, c2, rfl, hc2, _⟩ := own_cap HO.out
    have HC2 := Lib.hid hc2
    clear hc2
    have hln : l.length ≤ 1000000000 := by have := HL.out.1; omega
    by_cases ha : at1 = 0
    · subst ha
      have hg : r = some l := HG.out
      have hans := HSOME.out l hg
      subst hans
      clear hg
      go_wp2
      go_ret2
      exact ⟨_, rfl, HO.out, HB.out⟩
    have ha1 := bne_t ha
    have hg : r = if (nodeRead ws at1).2 = 0 ∧ (nodeRead ws at1).1.level = 0 ∧ l.contains at1 = false then leavesGo ws m (l ++ [at1]) (nodeRead ws at1).1.next else none := by
      have := HG.out
      rw [leavesGo, if_neg ha] at this
      exact this
    have HN := Lib.hid (HND.out at1)
    have hrange := @nodeRead_range ws at1
    generalize nodeRead ws at1 = nd at hg HN hrange
    obtain ⟨⟨lv, tu, ne, lo, sl⟩, er⟩ := nd
    simp only at hg HN hrange
    by_cases hnode : er = 0
    rotate_left
    · rw [if_neg (fun hh => hnode hh.1)] at hg
      have hans := HNONE.out hg
      subst hans
      have e1 := bne_t hnode
      clear hg hnode ha hrange
      go_wp2_with ((go_at_call 41; refine (HN.out _ (HC.out.below HB.out)).mono ?_; rintro e w1 ⟨v, rfl, hR, hB1⟩; obtain ⟨A1, c1, rfl⟩ := Kd.R_slice hR; have HB1 := Lib.hid (HB.out.next hB1); clear hR hB1))
      go_ret2
      exact ⟨_, rfl, World.ownsRow_nil _ _ _ _, HB1.out.alloc HB1.out.size _⟩
    subst hnode
    have HRG := Lib.hid (hrange rfl)
    clear hrange
    by_cases hlv : lv = 0
    rotate_left
    · rw [if_neg (fun hh => hlv hh.2.1)] at hg
      have hans := HNONE.out hg
      subst hans
      have e1 := bne_t hlv
      clear hg ha hlv
      go_wp2_with ((go_at_call 41; refine (HN.out _ (HC.out.below HB.out)).mono ?_; rintro e w1 ⟨v, rfl, hR, hB1⟩; obtain ⟨A1, c1, rfl⟩ := Kd.R_slice hR; have HB1 := Lib.hid (HB.out.next hB1); clear hR hB1))
      go_ret2
      exact ⟨_, rfl, World.ownsRow_nil _ _ _ _, HB1.out.alloc HB1.out.size _⟩
    subst hlv
    cases hct : l.contains at1 with
    | true =>
      rw [if_neg (fun hh => by rw [hct] at hh; simp at hh)] at hg
      have hans := HNONE.out hg
      subst hans
      have HCT := Lib.hid (fun W hW => rin_any A2 l.length c2 l at1 W hW hln)
      rw [hct] at HCT
      clear hg ha hct
      go_wp2_with (first
        | (go_at_call 41; refine (HN.out _ (HC.out.below HB.out)).mono ?_; rintro e w1 ⟨v, rfl, hR, hB1⟩; obtain ⟨A1, c1, rfl⟩ := Kd.R_slice hR; have HB1 := Lib.hid (HB.out.next hB1); have HO1 := Lib.hid (own_below_ HO.out hB1); clear hR hB1)
        | (go_at_call 25; refine (HCT.out _ (RI.own (own_alloc_ HO1.out _))).mono ?_; rintro e w3 ⟨rfl, rfl⟩))
      go_ret2
      exact ⟨_, rfl, World.ownsRow_nil _ _ _ _, HB1.out.alloc HB1.out.size _⟩
    | false =>
      rw [if_pos ⟨rfl, rfl, hct⟩] at hg
      have HG2 := Lib.hid hg
      have HCN := Lib.hid hct
      have HCT := Lib.hid (fun W hW => rin_any A2 l.length c2 l at1 W hW hln)
      rw [hct] at HCT
      clear hg ha hct
      go_upto_region 10 with (first
        | (go_at_call 41; refine (HN.out _ (HC.out.below HB.out)).mono ?_; rintro e w1 ⟨v, rfl, hR, hB1⟩; obtain ⟨A1, c1, rfl⟩ := Kd.R_slice hR; have HB1 := Lib.hid (HB.out.next hB1); have HO1 := Lib.hid (own_below_ HO.out hB1); clear hR hB1)
        | (go_at_call 25; refine (HCT.out _ (RI.own (own_alloc_ HO1.out _))).mono ?_; rintro e w3 ⟨rfl, rfl⟩))
      have HROW := Lib.hid (heap_alloc_new w1 (.cells #[.int .i64 0, .int .i64 tu, .int .i64 ne, .int .i64 lo, .slice A1 sl.length c1] 24))
      have HO2 := Lib.hid (own_alloc_ HO1.out (.cells #[.int .i64 0, .int .i64 tu, .int .i64 ne, .int .i64 lo, .slice A1 sl.length c1] 24))
      have HB2 := Lib.hid (HB1.out.alloc HB1.out.size (.cells #[.int .i64 0, .int .i64 tu, .int .i64 ne, .int .i64 lo, .slice A1 sl.length c1] 24))
      have hlt2 : w1.heap.size < (w1.alloc (.cells #[.int .i64 0, .int .i64 tu, .int .i64 ne, .int .i64 lo, .slice A1 sl.length c1] 24)).heap.size := by simp
      have HNB := Lib.hid (show (Value.slice A2 l.length c2).ownBlock ≠ some w1.heap.size from fun e => by have := own_lt HO1.out e; omega)
      clear HO1 HB1
      generalize w1.alloc (.cells #[.int .i64 0, .int .i64 tu, .int .i64 ne, .int .i64 lo, .slice A1 sl.length c1] 24) = W2 at HROW HO2 HB2 hlt2 ⊢
      have hw2 : w.heap.size ≤ W2.heap.size := HB2.out.size
      go_upto_region 11 with (first
        | (at_builtin
           refine wpList_append_any _ rfl _ _ _ rfl w.heap.size 3 i0 _ 1 8 Try.underlying22 hi0 hz0 hz1 hz2 rfl (by omega) _ _ _ rfl ((own_alloc_ HO2.out) _) _ _ 1 1 [.int .i64 at1] rfl (reads_one _ _ _) (by simp [Value.oneCell']) (by simp only [maxLen]; omega) (by omega) (by simp; omega) ?_
           intro v3 w4 hown3 hg3 hat3))
      have hrow4 : w4.heap[w1.heap.size]? = _ := (hg3.block _ (by simp; omega) (Ne.symm HNB.out)).trans ((Below.heap_alloc _ _ _ hlt2).trans HROW.out)
      have hfl := cell_of_row _ _ 2 _ _ _ hrow4
      have hb4 := (HB2.out.alloc hw2 (.cells #[.int .i64 at1] 3)).grown hg3 (by simp; omega) (fun q hq => own_ge HO2.out hq)
      have hok : LeavesOk ws m (l ++ [at1]) := LeavesOk.snoc HL.out HRG.out HCN.out
      obtain ⟨A3, c3, rfl, _⟩ := own_form1 hown3
      have hone : w4.ownsRow w.heap.size 3 1 (.slice A3 (l.length + 1) c3) (l ++ [at1]).length (ints (l ++ [at1])) := by simpa using hown3
      have HONE := Lib.hid hone
      have HB4 := Lib.hid hb4
      have HOK := Lib.hid hok
      have hlm : l.length + 1 ≤ ws.length / 16 + 1 := by have := HL.out.1; omega
      clear hone hb4 hok hown3 hg3 hat3 hrow4
      go_wp2_with fail
      go_roundw
      case rel => exact ⟨m, l ++ [at1], ne, rfl, HONE, HB4, HG2, HOK⟩
      case measure =>
        show ws.length / 16 + 1 - (l.length + 1) < ws.length / 16 + 1 - l.length
        omega
/-- Are a leaf's slots as they are to be, behind one of a key? -/
def rslots (ws : List Int) (low : ByteArray) : Option ByteArray → List Int → Bool
  | _, [] => true
  | p, s :: t => decide ((recRead ws s).2 = 0) && decide ((recRead ws s).1.kind = 1) && !ltS (recRead ws s).1.key low && (match p with | none => true | some y => ltS y (recRead ws s).1.key) && rslots ws low (some (recRead ws s).1.key) t
theorem rslots_nil (ws : List Int) (low : ByteArray) (p : Option ByteArray) : rslots ws low p [] = true := by cases p <;> rfl
theorem rslots_cons (ws : List Int) (low : ByteArray) (p : Option ByteArray) (s : Int) (t : List Int) : rslots ws low p (s :: t) = (decide ((recRead ws s).2 = 0) && decide ((recRead ws s).1.kind = 1) && !ltS (recRead ws s).1.key low && (match p with | none => true | some y => ltS y (recRead ws s).1.key) && rslots ws low (some (recRead ws s).1.key) t) := by cases p <;> rfl
def prevKey (ws : List Int) (l : List Int) : Nat → Option ByteArray
  | 0 => none
  | k + 1 => some (recRead ws (l.getD k 0)).1.key
theorem rleaf_any (A : Option Addr) (c : Nat) (ws : List Int) (b : Int) (low : ByteArray) (w : World) (h : RI w A ws.length ws) (hn : ws.length ≤ 60000) (hc : ws.length ≤ c) :
    Calls Try.prog 95 #[.slice A ws.length c, .int .i64 b, .string low] w fun e w' => e = .returned (.bool (rslots ws low none (plainOf (nodeRead ws b).1.slots))) ∧ Below w.heap.size w w' := by
  have HC := Lib.hid h
  have HN := Lib.hid (rnode_any A c ws b w h hn hc)
  have HRD := Lib.hid (fun x W hW => rrec_any A c ws x W hW hn hc)
  have hs13 := nodeRead_slots_ ws b
  clear h
  unfold NodePost at HN
  unfold RecPost at HRD
  generalize nodeRead ws b = nd at HN hs13 ⊢
  obtain ⟨⟨lv, tu, ne, lo, sl⟩, er⟩ := nd
  simp only at hs13 ⊢
  have HPL := Lib.hid (fun A n c W (h : RI W A n sl) (hn : n ≤ 1000000) => rplain_any A n c sl W h hn)
  have hpl : (plainOf sl).length ≤ 13 := Nat.le_trans (plain_le sl) hs13
  generalize plainOf sl = l at HPL hpl ⊢
  unfold OwnRowP at HPL
  obtain ⟨q, hq⟩ : ∃ q, q = rslots ws low none l := ⟨_, rfl⟩
  rw [← hq]
  have HQ := Lib.hid hq
  have HS13 := Lib.hid hs13
  clear hq hs13
  go_enter Try.func95, Try.ntmps95
  go_wp2_with (first
    | (go_at_call 41; refine HN.out.mono ?_; rintro e w1 ⟨v1, rfl, hR1, hB1⟩; obtain ⟨A1, c1, rfl, hc1, hC1⟩ := Kd.R_reads hR1)
    | (go_at_call 116; refine (HPL.out A1 sl.length c1 _ (RI_of_C (Kd.C_alloc hC1 _)) (by have := HS13.out; omega)).mono ?_; rintro e w2 ⟨v2, rfl, hO2, hB2⟩))
  have HB2 := Lib.hid ((hB1.alloc hB1.size (.cells #[.int .i64 lv, .int .i64 tu, .int .i64 ne, .int .i64 lo, .slice A1 sl.length c1] 24)).next hB2)
  obtain ⟨A2, c2, rfl, hc2, hri2⟩ := own_cap hO2
  have HR2 := Lib.hid hri2
  clear hR1 hC1 hO2 hB1 hB2 hri2 hc1 hc2
  go_loopw [10] (fun i wr => ∃ k : Nat, k ≤ l.length ∧ i = .int .i64 k ∧ Hid (q = rslots ws low (prevKey ws l k) (l.drop k)) ∧ Hid (Below w2.heap.size w2 wr)) (fun i _ => l.length - (intOf i).toNat)
  case atStart => exact ⟨0, by omega, rfl, HQ, Lib.hid (Below.refl _ _)⟩
  case round =>
    obtain ⟨k, hk, rfl, HG, HB⟩ := hrel
    have HBW := Lib.hid (HB2.out.next HB.out)
    by_cases hlt : k < l.length
    · obtain ⟨ad, s, rfl, hb, hx, hat⟩ := (HR2.out.below HB.out).at_ hlt
      have hdr : l.drop k = s :: l.drop (k + 1) := dropK hx
      have hg := HG.out
      rw [hdr, rslots_cons] at hg
      have hsg : l.getD k 0 = s := by rw [List.getD_eq_getElem?_getD, hx]; rfl
      have hpk : prevKey ws l (k + 1) = some (recRead ws s).1.key := by rw [prevKey, hsg]
      rw [← hpk] at hg
      have HPK := Lib.hid hpk
      have HX := Lib.hid (HRD.out s)
      clear hx hdr hsg hpk
      generalize recRead ws s = rc at hg HX
      obtain ⟨⟨kd, ky, va, ch⟩, er⟩ := rc
      simp only at hg
      by_cases he : er = 0
      rotate_left
      · rw [decide_eq_false he] at hg
        simp only [Bool.false_and] at hg
        have e1 := bne_t he
        subst hg
        clear he
        go_wp2_with ((go_at_call 43; refine (HX.out _ (HC.out.below HBW.out)).mono ?_; rintro e w3 ⟨rfl, hB3⟩))
        go_ret
        exact ⟨rfl, (HBW.out.next hB3).alloc (HBW.out.next hB3).size _⟩
      subst he
      rw [decide_eq_true rfl, Bool.true_and] at hg
      by_cases hkd : kd = 1
      rotate_left
      · rw [decide_eq_false hkd] at hg
        simp only [Bool.false_and] at hg
        have e1 := bne_t hkd
        subst hg
        clear hkd
        go_wp2_with ((go_at_call 43; refine (HX.out _ (HC.out.below HBW.out)).mono ?_; rintro e w3 ⟨rfl, hB3⟩))
        go_ret
        exact ⟨rfl, (HBW.out.next hB3).alloc (HBW.out.next hB3).size _⟩
      subst hkd
      rw [decide_eq_true rfl, Bool.true_and] at hg
      cases hlo : ltS ky low with
      | true =>
        rw [hlo] at hg
        simp only [Bool.not_true, Bool.false_and] at hg
        have e1 := ltS_t hlo
        subst hg
        clear hlo
        go_wp2_with ((go_at_call 43; refine (HX.out _ (HC.out.below HBW.out)).mono ?_; rintro e w3 ⟨rfl, hB3⟩))
        go_ret
        exact ⟨rfl, (HBW.out.next hB3).alloc (HBW.out.next hB3).size _⟩
      | false =>
        rw [hlo] at hg
        simp only [Bool.not_false, Bool.true_and] at hg
        have e1 := ltS_f hlo
        clear hlo
        rcases Nat.eq_zero_or_pos k with hk0 | hk0
        · subst hk0
          rw [prevKey] at hg
          simp only [Bool.true_and] at hg
          have HG2 := Lib.hid hg
          rw [Addr.add_zero'] at hat
          clear hg
          go_wp2_with ((go_at_call 43; refine (HX.out _ (HC.out.below HBW.out)).mono ?_; rintro e w3 ⟨rfl, hB3⟩))
          have hb4 := (HB.out.next hB3).alloc (HB.out.next hB3).size (.cells #[.int .i64 1, .string ky, .string va, .int .i64 ch] 62)
          go_roundw
          case rel => exact ⟨0 + 1, by omega, by go_num, HG2, Lib.hid hb4⟩
          case measure => simp [intOf]; omega
        · obtain ⟨m, hm⟩ : ∃ m, k = m + 1 := ⟨k - 1, by omega⟩
          have hmn : m < l.length := by omega
          obtain ⟨ad', y, e, hb', hy, hat'⟩ := (HR2.out.below HB.out).at_ hmn
          injection e with e
          subst e
          have hpv : prevKey ws l k = some (recRead ws y).1.key := by
            have hyg : l.getD m 0 = y := by rw [List.getD_eq_getElem?_getD, hy]; rfl
            rw [hm, prevKey, hyg]
          rw [hpv] at hg
          simp only at hg
          have hs1 : IntKind.i64.wrap ((k : Int) - 1) = (m : Int) := by rw [IntKind.wrap_i64]; omega
          have hk1 : (0 : Int) < (k : Int) := by omega
          have HY := Lib.hid (HRD.out y)
          have HCY := Lib.hid (fun W (h : Below wr.heap.size wr W) => (h.cell (p := ad.add m) (show (ad.add m).block < wr.heap.size by unfold Addr.add; split <;> exact hb')).trans hat')
          clear hpv hy hm hk0
          generalize recRead ws y = ry at hg HY
          obtain ⟨⟨kd2, ky2, va2, ch2⟩, er2⟩ := ry
          simp only at hg
          cases hlt2 : ltS ky2 ky with
          | false =>
            rw [hlt2] at hg
            simp only [Bool.false_and] at hg
            have e2 := ltS_f hlt2
            subst hg
            clear hlt2
            go_upto_region 10 with ((go_at_call 43; refine (HX.out _ (HC.out.below HBW.out)).mono ?_; rintro e w3 ⟨rfl, hB3⟩))
            have HB4 := Lib.hid ((HB.out.next hB3).alloc (HB.out.next hB3).size (.cells #[.int .i64 1, .string ky, .string va, .int .i64 ch] 62))
            have hc4 := HCY.out _ ((hB3.alloc hB3.size (.cells #[.int .i64 1, .string ky, .string va, .int .i64 ch] 62)))
            have HR3 := Lib.hid (heap_alloc_new w3 (.cells #[.int .i64 1, .string ky, .string va, .int .i64 ch] 62))
            have hl3 : w3.heap.size < (w3.alloc (.cells #[.int .i64 1, .string ky, .string va, .int .i64 ch] 62)).heap.size := by simp
            generalize w3.alloc (.cells #[.int .i64 1, .string ky, .string va, .int .i64 ch] 62) = w4 at HB4 hc4 HR3 hl3 ⊢
            go_wp2_with ((go_at_call 43; refine (HY.out _ (HC.out.below (HB2.out.next HB4.out))).mono ?_; rintro e w5 ⟨rfl, hB5⟩; have hr5 := (hB5.block _ hl3).trans HR3.out; have hk6 := (show ∀ o, (w5.alloc o).cell? ⟨w3.heap.size, 1, none⟩ = some (.string ky) from fun o => cell_of_row (w5.alloc o) w3.heap.size 1 _ _ _ ((Below.heap_alloc w5 o _ (Array.getElem?_eq_some_iff.1 hr5).1).trans hr5)); have HR5 := Lib.hid hr5; clear hr5))
            go_ret
            exact ⟨rfl, (HB2.out.next (HB4.out.next hB5)).alloc (HB2.out.next (HB4.out.next hB5)).size _⟩
          | true =>
            rw [hlt2] at hg
            simp only [Bool.true_and] at hg
            have e2 := ltS_t hlt2
            have HG2 := Lib.hid hg
            clear hlt2 hg
            go_upto_region 10 with ((go_at_call 43; refine (HX.out _ (HC.out.below HBW.out)).mono ?_; rintro e w3 ⟨rfl, hB3⟩))
            have HB4 := Lib.hid ((HB.out.next hB3).alloc (HB.out.next hB3).size (.cells #[.int .i64 1, .string ky, .string va, .int .i64 ch] 62))
            have hc4 := HCY.out _ ((hB3.alloc hB3.size (.cells #[.int .i64 1, .string ky, .string va, .int .i64 ch] 62)))
            have HR3 := Lib.hid (heap_alloc_new w3 (.cells #[.int .i64 1, .string ky, .string va, .int .i64 ch] 62))
            have hl3 : w3.heap.size < (w3.alloc (.cells #[.int .i64 1, .string ky, .string va, .int .i64 ch] 62)).heap.size := by simp
            generalize w3.alloc (.cells #[.int .i64 1, .string ky, .string va, .int .i64 ch] 62) = w4 at HB4 hc4 HR3 hl3 ⊢
            go_wp2_with ((go_at_call 43; refine (HY.out _ (HC.out.below (HB2.out.next HB4.out))).mono ?_; rintro e w5 ⟨rfl, hB5⟩; have hr5 := (hB5.block _ hl3).trans HR3.out; have hk6 := (show ∀ o, (w5.alloc o).cell? ⟨w3.heap.size, 1, none⟩ = some (.string ky) from fun o => cell_of_row (w5.alloc o) w3.heap.size 1 _ _ _ ((Below.heap_alloc w5 o _ (Array.getElem?_eq_some_iff.1 hr5).1).trans hr5)); have HR5 := Lib.hid hr5; clear hr5))
            have hb6 := (HB4.out.next hB5).alloc (HB4.out.next hB5).size (.cells #[.int .i64 kd2, .string ky2, .string va2, .int .i64 ch2] 62)
            go_roundw
            case rel => exact ⟨k + 1, by omega, by go_num, HG2, Lib.hid hb6⟩
            case measure => simp [intOf]; omega
    · obtain rfl : k = l.length := by omega
      have hg := HG.out
      rw [List.drop_eq_nil_of_le (Nat.le_refl _), rslots_nil] at hg
      subst hg
      go_wp2
      go_ret
      exact ⟨rfl, HBW.out⟩
/-- Are the leaves as they are to be, behind a key? -/
def rleaves (ws : List Int) : Bool → ByteArray → List Int → Bool
  | _, _, [] => true
  | first, last, b :: t => decide ((lowRead ws b).2 = 0) && rslots ws (lowRead ws b).1 none (plainOf (nodeRead ws b).1.slots) && (if first = true then decide ((nodeRead ws b).1.low = 0) else ltS last (lowRead ws b).1) && rleaves ws false (lowRead ws b).1 t
theorem rleaves_nil (ws : List Int) (f : Bool) (last : ByteArray) : rleaves ws f last [] = true := rfl
theorem rleaves_cons (ws : List Int) (f : Bool) (last : ByteArray) (b : Int) (t : List Int) : rleaves ws f last (b :: t) = (decide ((lowRead ws b).2 = 0) && rslots ws (lowRead ws b).1 none (plainOf (nodeRead ws b).1.slots) && (if f = true then decide ((nodeRead ws b).1.low = 0) else ltS last (lowRead ws b).1) && rleaves ws false (lowRead ws b).1 t) := rfl
def rcheck (ws : List Int) : Int := if (leavesAns ws).2 = 0 then (if rleaves ws true ⟨#[]⟩ (leavesAns ws).1 = true then 0 else 110) else (leavesAns ws).2
theorem rchk_any (A : Option Addr) (c : Nat) (ws : List Int) (w : World) (h : RI w A ws.length ws) (hn : ws.length ≤ 60000) (hc : ws.length ≤ c) :
    Calls Try.prog 62 #[.slice A ws.length c] w fun e w' => e = .returned (.int .i64 (rcheck ws)) ∧ Below w.heap.size w w' := by
  have HC := Lib.hid h
  have HLV := Lib.hid (rleaves_any A c ws w h hn hc)
  have HND := Lib.hid (fun x W hW => rnode_any A c ws x W hW hn hc)
  have HLO := Lib.hid (fun x W hW => rlow_any A c ws x W hW hn hc)
  have HLE := Lib.hid (fun x lw W hW => rleaf_any A c ws x lw W hW hn hc)
  clear h
  unfold NodePost at HND
  unfold OwnTwoR at HLV
  obtain ⟨z, hz⟩ : ∃ z, z = rcheck ws := ⟨_, rfl⟩
  rw [← hz]
  unfold rcheck at hz
  have hln : (leavesAns ws).1.length ≤ 1000000 := by
    cases hl : leavesRead ws with
    | none => rw [leavesAns_none hl]; exact Nat.zero_le _
    | some l => rw [leavesAns_some hl]; have := leaves_len hl; simp only; omega
  generalize leavesAns ws = la at HLV hz hln
  obtain ⟨l, er⟩ := la
  simp only at hz HLV hln
  by_cases he : er = 0
  rotate_left
  · rw [if_neg he] at hz
    have e1 := bne_t he
    subst hz
    clear he HND HLO HLE
    go_enter Try.func62, Try.ntmps62
    go_wp2_with ((go_at_call 65; refine HLV.out.mono ?_; rintro e w1 ⟨v1, rfl, ho1, hB1⟩; obtain ⟨A1, c1, rfl, _, _⟩ := own_cap ho1))
    go_ret
    exact ⟨rfl, hB1⟩
  subst he
  rw [if_pos rfl] at hz
  obtain ⟨q, hq⟩ : ∃ q, q = rleaves ws true ⟨#[]⟩ l := ⟨_, rfl⟩
  rw [← hq] at hz
  have HQ := Lib.hid hq
  have HZ := Lib.hid hz
  clear hq hz
  go_enter Try.func62, Try.ntmps62
  go_wp2_with ((go_at_call 65; refine HLV.out.mono ?_; rintro e w1 ⟨v1, rfl, ho1, hB1⟩; obtain ⟨A1, c1, rfl, hc1, hri1⟩ := own_cap ho1))
  have HB1 := Lib.hid hB1
  have HR1 := Lib.hid hri1
  clear ho1 hB1 hri1 hc1
  go_loopw [5, 6] (fun la i wr => ∃ (k : Nat) (last : ByteArray), k ≤ l.length ∧ i = .int .i64 k ∧ la = .string last ∧ Hid (q = rleaves ws (k == 0) last (l.drop k)) ∧ Hid (Below w1.heap.size w1 wr)) (fun _ i _ => l.length - (intOf i).toNat)
  case atStart => exact ⟨0, ⟨#[]⟩, by omega, rfl, rfl, HQ, Lib.hid (Below.refl _ _)⟩
  case round =>
    obtain ⟨k, last, hk, rfl, rfl, HG, HB⟩ := hrel
    have HBW := Lib.hid (HB1.out.next HB.out)
    by_cases hlt : k < l.length
    · obtain ⟨ad, b, rfl, hb, hx, hat⟩ := HR1.out.at_ hlt
      have hdr : l.drop k = b :: l.drop (k + 1) := dropK hx
      have hg := HG.out
      rw [hdr, rleaves_cons] at hg
      have hbl : (ad.add k).block < w1.heap.size := by unfold Addr.add; split <;> exact hb
      have HCK := Lib.hid (fun W (h : Below w1.heap.size w1 W) => (h.cell (p := ad.add k) hbl).trans hat)
      have HN := Lib.hid (HND.out b)
      have HLW := Lib.hid (HLO.out b)
      have HLF := Lib.hid (HLE.out b (lowRead ws b).1)
      clear hx hdr hbl hat
      generalize lowRead ws b = lr at hg HLW HLF
      obtain ⟨lw, el⟩ := lr
      generalize nodeRead ws b = nd at hg HN HLF
      obtain ⟨⟨lv, tu, ne, lo, sl⟩, en⟩ := nd
      simp only at hg HLF HN
      generalize rslots ws lw none (plainOf sl) = wh at hg HLF
      have hcw := HCK.out _ HB.out
      by_cases hel : el = 0
      rotate_left
      · rw [decide_eq_false hel] at hg
        simp only [Bool.false_and] at hg
        have e1 := bne_t hel
        have hz := HZ.out
        rw [hg, if_neg (by simp)] at hz
        subst hz
        clear hel hg
        rcases Nat.eq_zero_or_pos k with hk0 | hk0
        · subst hk0
          rw [Addr.add_zero'] at HCK hcw
          go_upto_region 9 with ((go_at_call 41; refine (HN.out _ (HC.out.below HBW.out)).mono ?_; rintro e w3 ⟨v3, rfl, hR3, hB3⟩; obtain ⟨A3, c3, rfl⟩ := Kd.R_slice hR3))
          have HROW := Lib.hid (heap_alloc_new w3 (.cells #[.int .i64 lv, .int .i64 tu, .int .i64 ne, .int .i64 lo, .slice A3 sl.length c3] 24))
          have HB4 := Lib.hid ((HB.out.next hB3).alloc (HB.out.next hB3).size (.cells #[.int .i64 lv, .int .i64 tu, .int .i64 ne, .int .i64 lo, .slice A3 sl.length c3] 24))
          have hl4 : w3.heap.size < (w3.alloc (.cells #[.int .i64 lv, .int .i64 tu, .int .i64 ne, .int .i64 lo, .slice A3 sl.length c3] 24)).heap.size := by simp
          generalize w3.alloc (.cells #[.int .i64 lv, .int .i64 tu, .int .i64 ne, .int .i64 lo, .slice A3 sl.length c3] 24) = w4 at HROW HB4 hl4 ⊢
          have hc4 := HCK.out _ HB4.out
          clear hR3 hB3
          go_upto_region 10 with ((go_at_call 42; refine (HLW.out _ (HC.out.below (HB1.out.next HB4.out))).mono ?_; rintro e w5 ⟨rfl, hB5⟩))
          have HB5 := Lib.hid (HB4.out.next hB5)
          have HROW5 := Lib.hid ((hB5.block _ hl4).trans HROW.out)
          have hc5 := HCK.out _ HB5.out
          have hl5 : w3.heap.size < w5.heap.size := (Array.getElem?_eq_some_iff.1 HROW5.out).1
          clear hB5 hc4
          go_upto_region 11 with ((go_at_call 95; refine (HLF.out _ (HC.out.below (HB1.out.next HB5.out))).mono ?_; rintro e w6 ⟨rfl, hB6⟩))
          have HB6 := Lib.hid (HB5.out.next hB6)
          have hc6 := cell_of_row _ _ 3 _ _ _ ((hB6.block _ hl5).trans HROW5.out)
          have HBX := Lib.hid (HB1.out.next HB6.out)
          clear hB6 hc5
          go_wp2_with fail
          go_ret
          exact ⟨rfl, HBX.out⟩
        · skip
          go_upto_region 9 with ((go_at_call 41; refine (HN.out _ (HC.out.below HBW.out)).mono ?_; rintro e w3 ⟨v3, rfl, hR3, hB3⟩; obtain ⟨A3, c3, rfl⟩ := Kd.R_slice hR3))
          have HROW := Lib.hid (heap_alloc_new w3 (.cells #[.int .i64 lv, .int .i64 tu, .int .i64 ne, .int .i64 lo, .slice A3 sl.length c3] 24))
          have HB4 := Lib.hid ((HB.out.next hB3).alloc (HB.out.next hB3).size (.cells #[.int .i64 lv, .int .i64 tu, .int .i64 ne, .int .i64 lo, .slice A3 sl.length c3] 24))
          have hl4 : w3.heap.size < (w3.alloc (.cells #[.int .i64 lv, .int .i64 tu, .int .i64 ne, .int .i64 lo, .slice A3 sl.length c3] 24)).heap.size := by simp
          generalize w3.alloc (.cells #[.int .i64 lv, .int .i64 tu, .int .i64 ne, .int .i64 lo, .slice A3 sl.length c3] 24) = w4 at HROW HB4 hl4 ⊢
          have hc4 := HCK.out _ HB4.out
          clear hR3 hB3
          go_upto_region 10 with ((go_at_call 42; refine (HLW.out _ (HC.out.below (HB1.out.next HB4.out))).mono ?_; rintro e w5 ⟨rfl, hB5⟩))
          have HB5 := Lib.hid (HB4.out.next hB5)
          have HROW5 := Lib.hid ((hB5.block _ hl4).trans HROW.out)
          have hc5 := HCK.out _ HB5.out
          have hl5 : w3.heap.size < w5.heap.size := (Array.getElem?_eq_some_iff.1 HROW5.out).1
          clear hB5 hc4
          go_upto_region 11 with ((go_at_call 95; refine (HLF.out _ (HC.out.below (HB1.out.next HB5.out))).mono ?_; rintro e w6 ⟨rfl, hB6⟩))
          have HB6 := Lib.hid (HB5.out.next hB6)
          have hc6 := cell_of_row _ _ 3 _ _ _ ((hB6.block _ hl5).trans HROW5.out)
          have HBX := Lib.hid (HB1.out.next HB6.out)
          clear hB6 hc5
          go_wp2_with fail
          go_ret
          exact ⟨rfl, HBX.out⟩
      subst hel
      rw [decide_eq_true rfl, Bool.true_and] at hg
      cases wh with
      | false =>
        simp only [Bool.false_and] at hg
        have hz := HZ.out
        rw [hg, if_neg (by simp)] at hz
        subst hz
        clear hg
        rcases Nat.eq_zero_or_pos k with hk0 | hk0
        · subst hk0
          rw [Addr.add_zero'] at HCK hcw
          go_upto_region 9 with ((go_at_call 41; refine (HN.out _ (HC.out.below HBW.out)).mono ?_; rintro e w3 ⟨v3, rfl, hR3, hB3⟩; obtain ⟨A3, c3, rfl⟩ := Kd.R_slice hR3))
          have HROW := Lib.hid (heap_alloc_new w3 (.cells #[.int .i64 lv, .int .i64 tu, .int .i64 ne, .int .i64 lo, .slice A3 sl.length c3] 24))
          have HB4 := Lib.hid ((HB.out.next hB3).alloc (HB.out.next hB3).size (.cells #[.int .i64 lv, .int .i64 tu, .int .i64 ne, .int .i64 lo, .slice A3 sl.length c3] 24))
          have hl4 : w3.heap.size < (w3.alloc (.cells #[.int .i64 lv, .int .i64 tu, .int .i64 ne, .int .i64 lo, .slice A3 sl.length c3] 24)).heap.size := by simp
          generalize w3.alloc (.cells #[.int .i64 lv, .int .i64 tu, .int .i64 ne, .int .i64 lo, .slice A3 sl.length c3] 24) = w4 at HROW HB4 hl4 ⊢
          have hc4 := HCK.out _ HB4.out
          clear hR3 hB3
          go_upto_region 10 with ((go_at_call 42; refine (HLW.out _ (HC.out.below (HB1.out.next HB4.out))).mono ?_; rintro e w5 ⟨rfl, hB5⟩))
          have HB5 := Lib.hid (HB4.out.next hB5)
          have HROW5 := Lib.hid ((hB5.block _ hl4).trans HROW.out)
          have hc5 := HCK.out _ HB5.out
          have hl5 : w3.heap.size < w5.heap.size := (Array.getElem?_eq_some_iff.1 HROW5.out).1
          clear hB5 hc4
          go_upto_region 11 with ((go_at_call 95; refine (HLF.out _ (HC.out.below (HB1.out.next HB5.out))).mono ?_; rintro e w6 ⟨rfl, hB6⟩))
          have HB6 := Lib.hid (HB5.out.next hB6)
          have hc6 := cell_of_row _ _ 3 _ _ _ ((hB6.block _ hl5).trans HROW5.out)
          have HBX := Lib.hid (HB1.out.next HB6.out)
          clear hB6 hc5
          go_wp2_with fail
          go_ret
          exact ⟨rfl, HBX.out⟩
        · skip
          go_upto_region 9 with ((go_at_call 41; refine (HN.out _ (HC.out.below HBW.out)).mono ?_; rintro e w3 ⟨v3, rfl, hR3, hB3⟩; obtain ⟨A3, c3, rfl⟩ := Kd.R_slice hR3))
          have HROW := Lib.hid (heap_alloc_new w3 (.cells #[.int .i64 lv, .int .i64 tu, .int .i64 ne, .int .i64 lo, .slice A3 sl.length c3] 24))
          have HB4 := Lib.hid ((HB.out.next hB3).alloc (HB.out.next hB3).size (.cells #[.int .i64 lv, .int .i64 tu, .int .i64 ne, .int .i64 lo, .slice A3 sl.length c3] 24))
          have hl4 : w3.heap.size < (w3.alloc (.cells #[.int .i64 lv, .int .i64 tu, .int .i64 ne, .int .i64 lo, .slice A3 sl.length c3] 24)).heap.size := by simp
          generalize w3.alloc (.cells #[.int .i64 lv, .int .i64 tu, .int .i64 ne, .int .i64 lo, .slice A3 sl.length c3] 24) = w4 at HROW HB4 hl4 ⊢
          have hc4 := HCK.out _ HB4.out
          clear hR3 hB3
          go_upto_region 10 with ((go_at_call 42; refine (HLW.out _ (HC.out.below (HB1.out.next HB4.out))).mono ?_; rintro e w5 ⟨rfl, hB5⟩))
          have HB5 := Lib.hid (HB4.out.next hB5)
          have HROW5 := Lib.hid ((hB5.block _ hl4).trans HROW.out)
          have hc5 := HCK.out _ HB5.out
          have hl5 : w3.heap.size < w5.heap.size := (Array.getElem?_eq_some_iff.1 HROW5.out).1
          clear hB5 hc4
          go_upto_region 11 with ((go_at_call 95; refine (HLF.out _ (HC.out.below (HB1.out.next HB5.out))).mono ?_; rintro e w6 ⟨rfl, hB6⟩))
          have HB6 := Lib.hid (HB5.out.next hB6)
          have hc6 := cell_of_row _ _ 3 _ _ _ ((hB6.block _ hl5).trans HROW5.out)
          have HBX := Lib.hid (HB1.out.next HB6.out)
          clear hB6 hc5
          go_wp2_with fail
          go_ret
          exact ⟨rfl, HBX.out⟩
      | true =>
        rw [Bool.true_and] at hg
        rcases Nat.eq_zero_or_pos k with hk0 | hk0
        · subst hk0
          rw [Addr.add_zero'] at HCK hcw
          rw [if_pos (by rfl)] at hg
          by_cases hlo : lo = 0
          · subst hlo
            rw [decide_eq_true rfl, Bool.true_and] at hg
            have HG2 := Lib.hid hg
            clear hg
            go_upto_region 9 with ((go_at_call 41; refine (HN.out _ (HC.out.below HBW.out)).mono ?_; rintro e w3 ⟨v3, rfl, hR3, hB3⟩; obtain ⟨A3, c3, rfl⟩ := Kd.R_slice hR3))
            have HROW := Lib.hid (heap_alloc_new w3 (.cells #[.int .i64 lv, .int .i64 tu, .int .i64 ne, .int .i64 0, .slice A3 sl.length c3] 24))
            have HB4 := Lib.hid ((HB.out.next hB3).alloc (HB.out.next hB3).size (.cells #[.int .i64 lv, .int .i64 tu, .int .i64 ne, .int .i64 0, .slice A3 sl.length c3] 24))
            have hl4 : w3.heap.size < (w3.alloc (.cells #[.int .i64 lv, .int .i64 tu, .int .i64 ne, .int .i64 0, .slice A3 sl.length c3] 24)).heap.size := by simp
            generalize w3.alloc (.cells #[.int .i64 lv, .int .i64 tu, .int .i64 ne, .int .i64 0, .slice A3 sl.length c3] 24) = w4 at HROW HB4 hl4 ⊢
            have hc4 := HCK.out _ HB4.out
            clear hR3 hB3
            go_upto_region 10 with ((go_at_call 42; refine (HLW.out _ (HC.out.below (HB1.out.next HB4.out))).mono ?_; rintro e w5 ⟨rfl, hB5⟩))
            have HB5 := Lib.hid (HB4.out.next hB5)
            have HROW5 := Lib.hid ((hB5.block _ hl4).trans HROW.out)
            have hc5 := HCK.out _ HB5.out
            have hl5 : w3.heap.size < w5.heap.size := (Array.getElem?_eq_some_iff.1 HROW5.out).1
            clear hB5 hc4
            go_upto_region 11 with ((go_at_call 95; refine (HLF.out _ (HC.out.below (HB1.out.next HB5.out))).mono ?_; rintro e w6 ⟨rfl, hB6⟩))
            have HB6 := Lib.hid (HB5.out.next hB6)
            have hc6 := cell_of_row _ _ 3 _ _ _ ((hB6.block _ hl5).trans HROW5.out)
            have HBX := Lib.hid (HB1.out.next HB6.out)
            clear hB6 hc5
            go_wp2_with fail
            go_roundw
            case rel => exact ⟨0 + 1, _, by omega, by go_num, rfl, HG2, HB6⟩
            case measure => simp [intOf]; omega
          · rw [decide_eq_false hlo, Bool.false_and] at hg
            have e1 := bne_t hlo
            have hz := HZ.out
            rw [hg, if_neg (by simp)] at hz
            subst hz
            clear hg hlo
            go_upto_region 9 with ((go_at_call 41; refine (HN.out _ (HC.out.below HBW.out)).mono ?_; rintro e w3 ⟨v3, rfl, hR3, hB3⟩; obtain ⟨A3, c3, rfl⟩ := Kd.R_slice hR3))
            have HROW := Lib.hid (heap_alloc_new w3 (.cells #[.int .i64 lv, .int .i64 tu, .int .i64 ne, .int .i64 lo, .slice A3 sl.length c3] 24))
            have HB4 := Lib.hid ((HB.out.next hB3).alloc (HB.out.next hB3).size (.cells #[.int .i64 lv, .int .i64 tu, .int .i64 ne, .int .i64 lo, .slice A3 sl.length c3] 24))
            have hl4 : w3.heap.size < (w3.alloc (.cells #[.int .i64 lv, .int .i64 tu, .int .i64 ne, .int .i64 lo, .slice A3 sl.length c3] 24)).heap.size := by simp
            generalize w3.alloc (.cells #[.int .i64 lv, .int .i64 tu, .int .i64 ne, .int .i64 lo, .slice A3 sl.length c3] 24) = w4 at HROW HB4 hl4 ⊢
            have hc4 := HCK.out _ HB4.out
            clear hR3 hB3
            go_upto_region 10 with ((go_at_call 42; refine (HLW.out _ (HC.out.below (HB1.out.next HB4.out))).mono ?_; rintro e w5 ⟨rfl, hB5⟩))
            have HB5 := Lib.hid (HB4.out.next hB5)
            have HROW5 := Lib.hid ((hB5.block _ hl4).trans HROW.out)
            have hc5 := HCK.out _ HB5.out
            have hl5 : w3.heap.size < w5.heap.size := (Array.getElem?_eq_some_iff.1 HROW5.out).1
            clear hB5 hc4
            go_upto_region 11 with ((go_at_call 95; refine (HLF.out _ (HC.out.below (HB1.out.next HB5.out))).mono ?_; rintro e w6 ⟨rfl, hB6⟩))
            have HB6 := Lib.hid (HB5.out.next hB6)
            have hc6 := cell_of_row _ _ 3 _ _ _ ((hB6.block _ hl5).trans HROW5.out)
            have HBX := Lib.hid (HB1.out.next HB6.out)
            clear hB6 hc5
            go_wp2_with fail
            go_ret
            exact ⟨rfl, HBX.out⟩
        · have hk1 : ((k : Int) == 0) = false := by rw [beq_eq_false_iff_ne]; omega
          have hk2 : (0 : Int) < (k : Int) := by omega
          have hk3 : ((k : Nat) == 0) = false := by rw [beq_eq_false_iff_ne]; omega
          rw [hk3, if_neg (by simp)] at hg
          cases hll : ltS last lw with
          | true =>
            rw [hll, Bool.true_and] at hg
            have HG2 := Lib.hid (show q = rleaves ws (k + 1 == 0) lw (l.drop (k + 1)) from hg)
            have e2 := ltS_t hll
            clear hg hll hk3
            go_upto_region 9 with ((go_at_call 41; refine (HN.out _ (HC.out.below HBW.out)).mono ?_; rintro e w3 ⟨v3, rfl, hR3, hB3⟩; obtain ⟨A3, c3, rfl⟩ := Kd.R_slice hR3))
            have HROW := Lib.hid (heap_alloc_new w3 (.cells #[.int .i64 lv, .int .i64 tu, .int .i64 ne, .int .i64 lo, .slice A3 sl.length c3] 24))
            have HB4 := Lib.hid ((HB.out.next hB3).alloc (HB.out.next hB3).size (.cells #[.int .i64 lv, .int .i64 tu, .int .i64 ne, .int .i64 lo, .slice A3 sl.length c3] 24))
            have hl4 : w3.heap.size < (w3.alloc (.cells #[.int .i64 lv, .int .i64 tu, .int .i64 ne, .int .i64 lo, .slice A3 sl.length c3] 24)).heap.size := by simp
            generalize w3.alloc (.cells #[.int .i64 lv, .int .i64 tu, .int .i64 ne, .int .i64 lo, .slice A3 sl.length c3] 24) = w4 at HROW HB4 hl4 ⊢
            have hc4 := HCK.out _ HB4.out
            clear hR3 hB3
            go_upto_region 10 with ((go_at_call 42; refine (HLW.out _ (HC.out.below (HB1.out.next HB4.out))).mono ?_; rintro e w5 ⟨rfl, hB5⟩))
            have HB5 := Lib.hid (HB4.out.next hB5)
            have HROW5 := Lib.hid ((hB5.block _ hl4).trans HROW.out)
            have hc5 := HCK.out _ HB5.out
            have hl5 : w3.heap.size < w5.heap.size := (Array.getElem?_eq_some_iff.1 HROW5.out).1
            clear hB5 hc4
            go_upto_region 11 with ((go_at_call 95; refine (HLF.out _ (HC.out.below (HB1.out.next HB5.out))).mono ?_; rintro e w6 ⟨rfl, hB6⟩))
            have HB6 := Lib.hid (HB5.out.next hB6)
            have hc6 := cell_of_row _ _ 3 _ _ _ ((hB6.block _ hl5).trans HROW5.out)
            have HBX := Lib.hid (HB1.out.next HB6.out)
            clear hB6 hc5
            go_wp2_with fail
            go_roundw
            case rel => exact ⟨k + 1, _, by omega, by go_num, rfl, HG2, HB6⟩
            case measure => simp [intOf]; omega
          | false =>
            rw [hll, Bool.false_and] at hg
            have e2 := ltS_f hll
            have hz := HZ.out
            rw [hg, if_neg (by simp)] at hz
            subst hz
            clear hg hll hk3
            go_upto_region 9 with ((go_at_call 41; refine (HN.out _ (HC.out.below HBW.out)).mono ?_; rintro e w3 ⟨v3, rfl, hR3, hB3⟩; obtain ⟨A3, c3, rfl⟩ := Kd.R_slice hR3))
            have HROW := Lib.hid (heap_alloc_new w3 (.cells #[.int .i64 lv, .int .i64 tu, .int .i64 ne, .int .i64 lo, .slice A3 sl.length c3] 24))
            have HB4 := Lib.hid ((HB.out.next hB3).alloc (HB.out.next hB3).size (.cells #[.int .i64 lv, .int .i64 tu, .int .i64 ne, .int .i64 lo, .slice A3 sl.length c3] 24))
            have hl4 : w3.heap.size < (w3.alloc (.cells #[.int .i64 lv, .int .i64 tu, .int .i64 ne, .int .i64 lo, .slice A3 sl.length c3] 24)).heap.size := by simp
            generalize w3.alloc (.cells #[.int .i64 lv, .int .i64 tu, .int .i64 ne, .int .i64 lo, .slice A3 sl.length c3] 24) = w4 at HROW HB4 hl4 ⊢
            have hc4 := HCK.out _ HB4.out
            clear hR3 hB3
            go_upto_region 10 with ((go_at_call 42; refine (HLW.out _ (HC.out.below (HB1.out.next HB4.out))).mono ?_; rintro e w5 ⟨rfl, hB5⟩))
            have HB5 := Lib.hid (HB4.out.next hB5)
            have HROW5 := Lib.hid ((hB5.block _ hl4).trans HROW.out)
            have hc5 := HCK.out _ HB5.out
            have hl5 : w3.heap.size < w5.heap.size := (Array.getElem?_eq_some_iff.1 HROW5.out).1
            clear hB5 hc4
            go_upto_region 11 with ((go_at_call 95; refine (HLF.out _ (HC.out.below (HB1.out.next HB5.out))).mono ?_; rintro e w6 ⟨rfl, hB6⟩))
            have HB6 := Lib.hid (HB5.out.next hB6)
            have hc6 := cell_of_row _ _ 3 _ _ _ ((hB6.block _ hl5).trans HROW5.out)
            have HBX := Lib.hid (HB1.out.next HB6.out)
            clear hB6 hc5
            go_wp2_with fail
            go_ret
            exact ⟨rfl, HBX.out⟩
    · obtain rfl : k = l.length := by omega
      have hg := HG.out
      rw [List.drop_eq_nil_of_le (Nat.le_refl _), rleaves_nil] at hg
      have hz := HZ.out
      rw [hg, if_pos rfl] at hz
      subst hz
      go_wp2
      go_ret
      exact ⟨rfl, HBW.out⟩
theorem ltS_eq {a b : ByteArray} (h1 : ltS a b = false) (h2 : ltS b a = false) : a.toList = b.toList := by
  have h := le_flip a.toList b.toList
  have e1 : Op.bytesLess a.toList b.toList = false := h1
  have e2 : Op.bytesLess b.toList a.toList = false := h2
  rw [e1, e2, Bool.false_or] at h
  exact eq_of_beq (by simpa using h)
theorem slots_ref (ws : List Int) (low : ByteArray) : ∀ (l : List Int) (f : Bool) (last : ByteArray) (p : Option ByteArray), ((f = true ∧ last = low ∧ p = none) ∨ (f = false ∧ ∃ y, p = some y ∧ last.toList = y.toList)) → slotsOk ws low f last l = rslots ws low p l
  | [], _, _, p, _ => by rw [rslots_nil]; rfl
  | s :: t, f, last, p, h => by
    rw [rslots_cons]
    show (slotOk ws low f last s && slotsOk ws low false (maxS last (recRead ws s).1.key) t) = _
    unfold slotOk
    rcases h with ⟨rfl, rfl, rfl⟩ | ⟨rfl, y, rfl, hy⟩
    · simp only [Bool.true_or, Bool.and_true]
      cases hk : ltS (recRead ws s).1.key last with
      | true => simp
      | false =>
        have ih := slots_ref ws last t false (maxS last (recRead ws s).1.key) (some (recRead ws s).1.key) (.inr ⟨rfl, _, rfl, by
          unfold maxS
          split
          · rfl
          · rename_i h2
            exact ltS_eq (by simpa using h2) hk⟩)
        rw [ih]
    · have hyk : ltS y (recRead ws s).1.key = ltS last (recRead ws s).1.key := by unfold ltS; rw [hy]
      simp only [Bool.false_or, hyk]
      cases hk : ltS last (recRead ws s).1.key with
      | false => simp
      | true =>
        have ih := slots_ref ws low t false (maxS last (recRead ws s).1.key) (some (recRead ws s).1.key) (.inr ⟨rfl, _, rfl, by unfold maxS; rw [if_pos hk]⟩)
        rw [ih]
theorem leaves_ref (ws : List Int) : ∀ (l : List Int) (f : Bool) (last : ByteArray), leavesOk ws f last l = rleaves ws f last l
  | [], _, _ => rfl
  | b :: t, f, last => by
    rw [rleaves_cons]
    show (leafOk ws f last b && leavesOk ws false (lowOfP ws (nodeRead ws b).1.low).1 t) = _
    unfold leafOk lowsOk
    by_cases hn : (nodeRead ws b).2 = 0
    · have e : lowRead ws b = lowOfP ws (nodeRead ws b).1.low := by unfold lowRead; rw [if_pos hn]
      rw [decide_eq_true hn, e, Bool.true_and, leaves_ref ws t, slots_ref ws _ _ true _ none (.inl ⟨rfl, rfl, rfl⟩)]
      generalize rslots ws (lowOfP ws (nodeRead ws b).1.low).1 none (plainOf (nodeRead ws b).1.slots) = u
      generalize decide ((lowOfP ws (nodeRead ws b).1.low).2 = 0) = v
      generalize (if f = true then decide ((nodeRead ws b).1.low = 0) else ltS last (lowOfP ws (nodeRead ws b).1.low).1) = x
      cases u <;> cases v <;> cases x <;> rfl
    · have e : lowRead ws b = (⟨#[]⟩, 110) := by unfold lowRead; rw [if_neg hn]
      rw [decide_eq_false hn, e]
      simp
theorem rcheck_is (ws : List Int) : rcheck ws = checkRead ws := by
  unfold rcheck checkRead lookRead
  cases hl : leavesRead ws with
  | none => rw [leavesAns_none hl]; rfl
  | some l =>
    rw [leavesAns_some hl]
    have e := leaves_ref ws l true ⟨#[]⟩
    cases h : rleaves ws true ⟨#[]⟩ l with
    | true => rw [h] at e; simp [e, h]
    | false => rw [h] at e; simp [e, h]
end Go.Proofs.Ytliaemoomhfcdaa
