/- The walks of the reference's checks of a record and of a node. -/
import Derived.Test.YtliaemoomhfcdaaRefN
import Derived.Test.YtliaemoomhfcdaaRefSum
namespace Go.Proofs.Ytliaemoomhfcdaa
open Go.RowKit Go.Proofs.YtliaemoomhfcdaaW.PrintWords
set_option maxHeartbeats 2000000
set_option maxRecDepth 100000
set_option linter.unusedVariables false
set_option linter.unusedSimpArgs false

theorem rkey_any (s : ByteArray) (w : World) : Calls Try.prog 123 #[.string s] w fun e w' => e = .returned (.bool (decide (1 ≤ s.size) && decide (s.size ≤ 21))) ∧ w = w' := by
  by_cases h1 : (s.size : Int) ≥ 1
  · by_cases h2 : (s.size : Int) ≤ 21
    · rw [decide_eq_true (show 1 ≤ s.size by omega), decide_eq_true (show s.size ≤ 21 by omega)]
      go_enter Try.func123, Try.ntmps123
      go_wp2
      go_ret
      exact ⟨rfl, rfl⟩
    · rw [decide_eq_true (show 1 ≤ s.size by omega), decide_eq_false (show ¬ s.size ≤ 21 by omega)]
      go_enter Try.func123, Try.ntmps123
      go_wp2
      go_ret
      exact ⟨rfl, rfl⟩
  · rw [decide_eq_false (show ¬ 1 ≤ s.size by omega)]
    go_enter Try.func123, Try.ntmps123
    go_wp2
    go_ret
    exact ⟨rfl, rfl⟩
theorem rval_any (s : ByteArray) (w : World) : Calls Try.prog 124 #[.string s] w fun e w' => e = .returned (.bool (decide (s.size ≤ 21))) ∧ w = w' := by
  by_cases h2 : (s.size : Int) ≤ 21
  · rw [decide_eq_true (show s.size ≤ 21 by omega)]
    go_enter Try.func124, Try.ntmps124
    go_wp2
    go_ret
    exact ⟨rfl, rfl⟩
  · rw [decide_eq_false (show ¬ s.size ≤ 21 by omega)]
    go_enter Try.func124, Try.ntmps124
    go_wp2
    go_ret
    exact ⟨rfl, rfl⟩
theorem rblk_any (n : Int) (w : World) : Calls Try.prog 122 #[.int .i64 n] w fun e w' => e = .returned (.bool (isBlk n)) ∧ w = w' := by
  unfold isBlk
  by_cases h1 : n ≥ 0
  · by_cases h2 : n ≤ 255
    · rw [decide_eq_true (show 0 ≤ n by omega), decide_eq_true (show n < 256 by omega)]
      go_enter Try.func122, Try.ntmps122
      go_wp2
      go_ret
      exact ⟨rfl, rfl⟩
    · rw [decide_eq_true (show 0 ≤ n by omega), decide_eq_false (show ¬ n < 256 by omega)]
      go_enter Try.func122, Try.ntmps122
      go_wp2
      go_ret
      exact ⟨rfl, rfl⟩
  · rw [decide_eq_false (show ¬ 0 ≤ n by omega)]
    go_enter Try.func122, Try.ntmps122
    go_wp2
    go_ret
    exact ⟨rfl, rfl⟩
theorem empty_iff (s : ByteArray) : s.toList = ([] : List UInt8) ↔ s.size = 0 := by
  rw [ByteArray.toList_eq]
  obtain ⟨⟨l⟩⟩ := s
  show l = [] ↔ l.length = 0
  rw [List.length_eq_zero_iff]
theorem rcheck_any (kind : Int) (key val : ByteArray) (ch : Int) (w : World) : Calls Try.prog 108 #[.agg #[.int .i64 kind, .string key, .string val, .int .i64 ch]] w fun e w' => e = .returned (.bool (recOk ⟨kind, key, val, ch⟩)) ∧ Below w.heap.size w w' := by
  have HK := Lib.hid (rkey_any key)
  have HV := Lib.hid (rval_any val)
  obtain ⟨kb, hkb⟩ : ∃ b, b = (decide (1 ≤ key.size) && decide (key.size ≤ 21)) := ⟨_, rfl⟩
  obtain ⟨vb, hvb⟩ : ∃ b, b = decide (val.size ≤ 21) := ⟨_, rfl⟩
  rw [← hkb] at HK
  rw [← hvb] at HV
  have hrk : (kind = 1 → recOk ⟨kind, key, val, ch⟩ = (kb && vb && decide (ch = 0))) ∧ (kind = 2 → recOk ⟨kind, key, val, ch⟩ = ((kb || decide (key.toList = [])) && decide (val.toList = []) && decide (ch ≥ 1) && decide (ch ≤ 255))) ∧ (¬ kind = 1 → ¬ kind = 2 → recOk ⟨kind, key, val, ch⟩ = false) := by
    unfold recOk
    refine ⟨fun h => ?_, fun h => ?_, fun h h2 => ?_⟩
    · rw [if_pos h, hkb, hvb]
    · rw [if_neg (show ¬ kind = 1 by omega), if_pos h, hkb]
      have e1 : decide (key.toList = []) = decide (key.size = 0) := decide_eq_decide.2 (empty_iff key)
      have e2 : decide (val.toList = []) = decide (val.size = 0) := decide_eq_decide.2 (empty_iff val)
      have e3 : (decide (1 ≤ key.size) && decide (key.size ≤ 21) || decide (key.size = 0)) = decide (key.size ≤ 21) := by
        rw [Bool.eq_iff_iff]
        simp only [Bool.or_eq_true, Bool.and_eq_true, decide_eq_true_eq]
        omega
      have e4 : decide (0 < ch) = decide (ch ≥ 1) := decide_eq_decide.2 (by omega)
      have e5 : decide (ch < 256) = decide (ch ≤ 255) := decide_eq_decide.2 (by omega)
      rw [e1, e2, e3, e4, e5]
    · rw [if_neg h, if_neg h2]
  generalize recOk ⟨kind, key, val, ch⟩ = r at hrk
  clear hkb hvb
  have HB := Lib.hid ((Below.refl w.heap.size w).alloc (Nat.le_refl _) (.cells #[Value.int .i64 kind, Value.string key, Value.string val, Value.int .i64 ch] 62))
  by_cases k1 : kind = 1
  · have hr := hrk.1 k1
    clear hrk
    subst k1
    cases kb with
    | false =>
      rw [Bool.false_and, Bool.false_and] at hr
      subst hr
      go_enter Try.func108, Try.ntmps108
      go_wp2_with (first
        | (go_at_call 123; refine (HK.out _).mono ?_; rintro e w1 ⟨rfl, rfl⟩)
        | (go_at_call 124; refine (HV.out _).mono ?_; rintro e w2 ⟨rfl, rfl⟩))
      go_ret
      exact ⟨rfl, HB.out⟩
    | true =>
      cases vb with
      | false =>
        rw [Bool.and_false, Bool.false_and] at hr
        subst hr
        go_enter Try.func108, Try.ntmps108
        go_wp2_with (first
          | (go_at_call 123; refine (HK.out _).mono ?_; rintro e w1 ⟨rfl, rfl⟩)
          | (go_at_call 124; refine (HV.out _).mono ?_; rintro e w2 ⟨rfl, rfl⟩))
        go_ret
        exact ⟨rfl, HB.out⟩
      | true =>
        subst hr
        go_enter Try.func108, Try.ntmps108
        go_wp2_with (first
          | (go_at_call 123; refine (HK.out _).mono ?_; rintro e w1 ⟨rfl, rfl⟩)
          | (go_at_call 124; refine (HV.out _).mono ?_; rintro e w2 ⟨rfl, rfl⟩))
        go_ret
        exact ⟨rfl, HB.out⟩
  by_cases k2 : kind = 2
  · have hr := hrk.2.1 k2
    clear hrk k1
    subst k2
    cases kb with
    | true =>
      rw [Bool.true_or, Bool.true_and] at hr
      by_cases ve : val.toList = []
      · rw [decide_eq_true ve, Bool.true_and] at hr
        by_cases c1 : ch ≥ 1
        · rw [decide_eq_true c1, Bool.true_and] at hr
          subst hr
          go_enter Try.func108, Try.ntmps108
          go_wp2_with (first
            | (go_at_call 123; refine (HK.out _).mono ?_; rintro e w1 ⟨rfl, rfl⟩)
            | (go_at_call 124; refine (HV.out _).mono ?_; rintro e w2 ⟨rfl, rfl⟩))
          go_ret
          exact ⟨rfl, HB.out⟩
        · rw [decide_eq_false c1, Bool.false_and] at hr
          subst hr
          go_enter Try.func108, Try.ntmps108
          go_wp2_with (first
            | (go_at_call 123; refine (HK.out _).mono ?_; rintro e w1 ⟨rfl, rfl⟩)
            | (go_at_call 124; refine (HV.out _).mono ?_; rintro e w2 ⟨rfl, rfl⟩))
          go_ret
          exact ⟨rfl, HB.out⟩
      · rw [decide_eq_false ve, Bool.false_and, Bool.false_and] at hr
        subst hr
        go_enter Try.func108, Try.ntmps108
        go_wp2_with (first
          | (go_at_call 123; refine (HK.out _).mono ?_; rintro e w1 ⟨rfl, rfl⟩)
          | (go_at_call 124; refine (HV.out _).mono ?_; rintro e w2 ⟨rfl, rfl⟩))
        go_ret
        exact ⟨rfl, HB.out⟩
    | false =>
      rw [Bool.false_or] at hr
      by_cases ke : key.toList = []
      · rw [decide_eq_true ke, Bool.true_and] at hr
        by_cases ve : val.toList = []
        · rw [decide_eq_true ve, Bool.true_and] at hr
          by_cases c1 : ch ≥ 1
          · rw [decide_eq_true c1, Bool.true_and] at hr
            subst hr
            go_enter Try.func108, Try.ntmps108
            go_wp2_with (first
              | (go_at_call 123; refine (HK.out _).mono ?_; rintro e w1 ⟨rfl, rfl⟩)
              | (go_at_call 124; refine (HV.out _).mono ?_; rintro e w2 ⟨rfl, rfl⟩))
            go_ret
            exact ⟨rfl, HB.out⟩
          · rw [decide_eq_false c1, Bool.false_and] at hr
            subst hr
            go_enter Try.func108, Try.ntmps108
            go_wp2_with (first
              | (go_at_call 123; refine (HK.out _).mono ?_; rintro e w1 ⟨rfl, rfl⟩)
              | (go_at_call 124; refine (HV.out _).mono ?_; rintro e w2 ⟨rfl, rfl⟩))
            go_ret
            exact ⟨rfl, HB.out⟩
        · rw [decide_eq_false ve, Bool.false_and, Bool.false_and] at hr
          subst hr
          go_enter Try.func108, Try.ntmps108
          go_wp2_with (first
            | (go_at_call 123; refine (HK.out _).mono ?_; rintro e w1 ⟨rfl, rfl⟩)
            | (go_at_call 124; refine (HV.out _).mono ?_; rintro e w2 ⟨rfl, rfl⟩))
          go_ret
          exact ⟨rfl, HB.out⟩
      · rw [decide_eq_false ke, Bool.false_and, Bool.false_and, Bool.false_and] at hr
        subst hr
        go_enter Try.func108, Try.ntmps108
        go_wp2_with (first
          | (go_at_call 123; refine (HK.out _).mono ?_; rintro e w1 ⟨rfl, rfl⟩)
          | (go_at_call 124; refine (HV.out _).mono ?_; rintro e w2 ⟨rfl, rfl⟩))
        go_ret
        exact ⟨rfl, HB.out⟩
  · have hr := hrk.2.2 k1 k2
    clear hrk
    subst hr
    go_enter Try.func108, Try.ntmps108
    go_wp2_with (first
      | (go_at_call 123; refine (HK.out _).mono ?_; rintro e w1 ⟨rfl, rfl⟩)
      | (go_at_call 124; refine (HV.out _).mono ?_; rintro e w2 ⟨rfl, rfl⟩))
    go_ret
    exact ⟨rfl, HB.out⟩
theorem nodeOk_iff (lv tu ne lo : Int) (xs : List Int) : nodeOk lv tu ne lo xs = true ↔ (0 ≤ lv ∧ lv ≤ 9 ∧ 0 ≤ tu ∧ tu ≤ 1099511627776 ∧ isBlk ne = true ∧ isBlk lo = true ∧ xs.length ≤ 13) ∧ xs.any noSlot = false := by
  unfold nodeOk
  simp only [Bool.and_eq_true, decide_eq_true_eq, Bool.not_eq_true']
  constructor
  · rintro ⟨⟨⟨⟨⟨⟨⟨a1, a2⟩, a3⟩, a4⟩, a5⟩, a6⟩, a7⟩, a8⟩; exact ⟨⟨a1, a2, a3, a4, a5, a6, a7⟩, a8⟩
  · rintro ⟨⟨a1, a2, a3, a4, a5, a6, a7⟩, a8⟩; exact ⟨⟨⟨⟨⟨⟨⟨a1, a2⟩, a3⟩, a4⟩, a5⟩, a6⟩, a7⟩, a8⟩
theorem rnchk_any (lv tu ne lo : Int) (A : Option Addr) (n c : Nat) (xs : List Int) (w : World) (h : RI w A n xs) (hn : n ≤ 1000000000) :
    Calls Try.prog 105 #[.agg #[.int .i64 lv, .int .i64 tu, .int .i64 ne, .int .i64 lo, .slice A n c]] w fun e w' => e = .returned (.bool (nodeOk lv tu ne lo xs)) ∧ Below w.heap.size w w' := by
  have HB := Lib.hid ((Below.refl w.heap.size w).alloc (Nat.le_refl _) (.cells #[Value.int .i64 lv, Value.int .i64 tu, Value.int .i64 ne, Value.int .i64 lo, Value.slice A n c] 24))
  have HR := Lib.hid (h.below HB.out)
  have HL := Lib.hid h.len
  have HBAD := Lib.hid (fun (hb : ¬ (0 ≤ lv ∧ lv ≤ 9 ∧ 0 ≤ tu ∧ tu ≤ 1099511627776 ∧ isBlk ne = true ∧ isBlk lo = true ∧ n ≤ 13)) => (show nodeOk lv tu ne lo xs = false from Bool.eq_false_iff.2 (fun e => hb (by rw [← HL.out]; exact ((nodeOk_iff _ _ _ _ _).1 e).1))))
  clear h
  by_cases a1 : lv < 0
  · rw [HBAD.out (by rintro ⟨_, _, _, _, _, _, _⟩; first | omega | (rename_i q; simp_all; done))]
    go_enter Try.func105, Try.ntmps105
    go_wp2_with ((go_at_call 122; refine (rblk_any _ _).mono ?_; rintro e w1 ⟨rfl, rfl⟩))
    go_ret
    exact ⟨rfl, HB.out⟩
  by_cases a2 : lv > 9
  · rw [HBAD.out (by rintro ⟨_, _, _, _, _, _, _⟩; first | omega | (rename_i q; simp_all; done))]
    go_enter Try.func105, Try.ntmps105
    go_wp2_with ((go_at_call 122; refine (rblk_any _ _).mono ?_; rintro e w1 ⟨rfl, rfl⟩))
    go_ret
    exact ⟨rfl, HB.out⟩
  by_cases a3 : tu < 0
  · rw [HBAD.out (by rintro ⟨_, _, _, _, _, _, _⟩; first | omega | (rename_i q; simp_all; done))]
    go_enter Try.func105, Try.ntmps105
    go_wp2_with ((go_at_call 122; refine (rblk_any _ _).mono ?_; rintro e w1 ⟨rfl, rfl⟩))
    go_ret
    exact ⟨rfl, HB.out⟩
  by_cases a4 : tu > 1099511627776
  · rw [HBAD.out (by rintro ⟨_, _, _, _, _, _, _⟩; first | omega | (rename_i q; simp_all; done))]
    go_enter Try.func105, Try.ntmps105
    go_wp2_with ((go_at_call 122; refine (rblk_any _ _).mono ?_; rintro e w1 ⟨rfl, rfl⟩))
    go_ret
    exact ⟨rfl, HB.out⟩
  by_cases a5 : isBlk ne = false
  · rw [HBAD.out (by rintro ⟨_, _, _, _, _, _, _⟩; first | omega | (rename_i q; simp_all; done))]
    go_enter Try.func105, Try.ntmps105
    go_wp2_with ((go_at_call 122; refine (rblk_any _ _).mono ?_; rintro e w1 ⟨rfl, rfl⟩))
    go_ret
    exact ⟨rfl, HB.out⟩
  by_cases a6 : isBlk lo = false
  · rw [HBAD.out (by rintro ⟨_, _, _, _, _, _, _⟩; first | omega | (rename_i q; simp_all; done))]
    go_enter Try.func105, Try.ntmps105
    go_wp2_with ((go_at_call 122; refine (rblk_any _ _).mono ?_; rintro e w1 ⟨rfl, rfl⟩))
    go_ret
    exact ⟨rfl, HB.out⟩
  by_cases a7 : (n : Int) > 13
  · rw [HBAD.out (by rintro ⟨_, _, _, _, _, _, _⟩; first | omega | (rename_i q; simp_all; done))]
    go_enter Try.func105, Try.ntmps105
    go_wp2_with ((go_at_call 122; refine (rblk_any _ _).mono ?_; rintro e w1 ⟨rfl, rfl⟩))
    go_ret
    exact ⟨rfl, HB.out⟩
  replace a5 : isBlk ne = true := by simpa using a5
  replace a6 : isBlk lo = true := by simpa using a6
  go_enter Try.func105, Try.ntmps105
  go_wp2_with ((go_at_call 122; refine (rblk_any _ _).mono ?_; rintro e w1 ⟨rfl, rfl⟩))
  go_loopw [3] (fun i wr => ∃ k : Nat, k ≤ n ∧ i = .int .i64 k ∧ Hid (∀ j x, j < k → xs[j]? = some x → noSlot x = false) ∧ wr = w.alloc (.cells #[Value.int .i64 lv, Value.int .i64 tu, Value.int .i64 ne, Value.int .i64 lo, Value.slice A n c] 24)) (fun i _ => n - (intOf i).toNat)
  case atStart => exact ⟨0, by omega, rfl, Lib.hid (fun j x hj => by omega), rfl⟩
  case round =>
    obtain ⟨k, hk, rfl, HF, rfl⟩ := hrel
    by_cases hlt : k < n
    · obtain ⟨ad, x, rfl, hb, hx, hat⟩ := HR.out.at_ hlt
      have HX := Lib.hid hx
      clear hx
      have HANY := Lib.hid (fun (hs : noSlot x = true) => (show nodeOk lv tu ne lo xs = false from Bool.eq_false_iff.2 (fun e => by have := ((nodeOk_iff _ _ _ _ _).1 e).2; rw [List.any_eq_false] at this; exact this x (List.mem_of_getElem? HX.out) hs)))
      by_cases b1 : isBlk x = false
      · skip
        go_wp2_with ((go_at_call 122; refine (rblk_any _ _).mono ?_; rintro e w1 ⟨rfl, rfl⟩))
        go_ret
        rw [HANY.out (by unfold noSlot; rw [b1]; simp)]
        exact ⟨rfl, HB.out⟩
      replace b1 : isBlk x = true := by simpa using b1
      by_cases b2 : x = 0
      · skip
        go_wp2_with ((go_at_call 122; refine (rblk_any _ _).mono ?_; rintro e w1 ⟨rfl, rfl⟩))
        go_ret
        rw [HANY.out (by unfold noSlot; rw [decide_eq_true b2]; simp)]
        exact ⟨rfl, HB.out⟩
      · have HNO := Lib.hid (show noSlot x = false by unfold noSlot; rw [b1, decide_eq_false b2]; rfl)
        go_wp2_with ((go_at_call 122; refine (rblk_any _ _).mono ?_; rintro e w1 ⟨rfl, rfl⟩))
        go_roundw
        case rel =>
          refine ⟨k + 1, by omega, by go_num, Lib.hid (fun j y hj hy => ?_), trivial⟩
          by_cases hj2 : j = k
          · subst hj2; rw [HX.out] at hy; injection hy with hy; rw [← hy]; exact HNO.out
          · exact HF.out j y (by omega) hy
        case measure => simp [intOf]; omega
    · obtain rfl : k = n := by omega
      have hall : nodeOk lv tu ne lo xs = true := (nodeOk_iff _ _ _ _ _).2 ⟨⟨by omega, by omega, by omega, by omega, a5, a6, by rw [HL.out]; omega⟩, List.any_eq_false.2 (fun x hx => by
        obtain ⟨j, hj, e⟩ := List.mem_iff_getElem.1 hx
        have := HF.out j x (by rw [← HL.out]; exact hj) (by rw [List.getElem?_eq_getElem hj, e])
        simp [this])⟩
      clear HF
      go_wp2
      go_ret
      rw [hall]
      exact ⟨rfl, HB.out⟩
theorem rfirst_any (lv tu ne lo : Int) (A : Option Addr) (n c : Nat) (w : World) (h0 : 0 ≤ lv) (h1 : lv ≤ 9) (h2 : 0 ≤ tu) (h3 : tu ≤ 1099511627776) :
    Calls Try.prog 106 #[.agg #[.int .i64 lv, .int .i64 tu, .int .i64 ne, .int .i64 lo, .slice A n c]] w fun e w' => e = .returned (.int .i64 (firstOf lv tu)) ∧ Below w.heap.size w w' := by
  have HB := Lib.hid ((Below.refl w.heap.size w).alloc (Nat.le_refl _) (.cells #[Value.int .i64 lv, Value.int .i64 tu, Value.int .i64 ne, Value.int .i64 lo, Value.slice A n c] 24))
  have HE := Lib.hid (first_is lv tu h0 h1 h2 h3)
  have w1 : IntKind.i64.wrap (16 * tu) = 16 * tu := by rw [IntKind.wrap_i64]; omega
  have w2 : IntKind.i64.wrap (1152921504606846976 + 16 * tu) = 1152921504606846976 + 16 * tu := by rw [IntKind.wrap_i64]; omega
  have w3 : IntKind.i64.wrap (1152921504606846976 + 16 * tu + lv) = 1152921504606846976 + 16 * tu + lv := by rw [IntKind.wrap_i64]; omega
  go_enter Try.func106, Try.ntmps106
  go_wp2
  go_ret
  exact ⟨ret_int HE.out.symm, HB.out⟩
theorem rnwords_bad (lv tu ne lo : Int) (A : Option Addr) (n c : Nat) (xs : List Int) (w : World) (h : RI w A n xs) (hn : n ≤ 1000000000) (hbad : nodeOk lv tu ne lo xs = false) :
    Calls Try.prog 77 #[.agg #[.int .i64 lv, .int .i64 tu, .int .i64 ne, .int .i64 lo, .slice A n c]] w (OwnTwo w [] 90) := by
  have HB := Lib.hid ((Below.refl w.heap.size w).alloc (Nat.le_refl _) (.cells #[Value.int .i64 lv, Value.int .i64 tu, Value.int .i64 ne, Value.int .i64 lo, Value.slice A n c] 24))
  have HR := Lib.hid (h.below HB.out)
  have HC := Lib.hid (rnchk_any lv tu ne lo A n c xs _ HR.out hn)
  rw [hbad] at HC
  clear h
  go_enter Try.func77, Try.ntmps77
  go_wp2_with (first
    | (refine wpList_load_row rfl 24 _ rfl w.heap.size rfl 24 _ (0, 0) _ (heap_alloc_new _ _) Try.underlying24 rfl (by kernel_rfl) ?_)
    | (go_at_call 105; refine HC.out.mono ?_; rintro e w1 ⟨rfl, hB1⟩))
  go_ret2
  exact ⟨_, rfl, World.ownsRow_nil _ _ _ _, HB.out.next hB1⟩
def slLen : Value → Nat
  | .slice _ n _ => n
  | _ => 0
theorem ints_more (F ne lo : Int) (xs : List Int) (d : Nat) : ints (F :: ne :: lo :: (xs ++ List.replicate (d + 1) 0)) = ints (F :: ne :: lo :: (xs ++ List.replicate d 0)) ++ [.int .i64 0] := by
  unfold ints
  rw [List.replicate_succ', ← List.append_assoc]
  simp
theorem rnwords_any (lv tu ne lo : Int) (A : Option Addr) (n c : Nat) (xs : List Int) (w : World) (h : RI w A n xs) (hn : n ≤ 1000000000) (hok : nodeOk lv tu ne lo xs = true) :
    Calls Try.prog 77 #[.agg #[.int .i64 lv, .int .i64 tu, .int .i64 ne, .int .i64 lo, .slice A n c]] w (OwnTwo w (nodeWords lv tu ne lo xs) 0) := by
  obtain ⟨⟨a1, a2, a3, a4, _, _, a7⟩, _⟩ := (nodeOk_iff _ _ _ _ _).1 hok
  have HB := Lib.hid ((Below.refl w.heap.size w).alloc (Nat.le_refl _) (.cells #[Value.int .i64 lv, Value.int .i64 tu, Value.int .i64 ne, Value.int .i64 lo, Value.slice A n c] 24))
  have HR := Lib.hid (h.below HB.out)
  have HC := Lib.hid (rnchk_any lv tu ne lo A n c xs _ HR.out hn)
  rw [hok] at HC
  have HFI := Lib.hid (fun W => rfirst_any lv tu ne lo A n c W a1 a2 a3 a4)
  have hl := h.len
  have h13 : n ≤ 13 := by omega
  have HL := Lib.hid hl
  obtain ⟨F, hF⟩ : ∃ F, F = firstOf lv tu := ⟨_, rfl⟩
  have HF := Lib.hid hF
  rw [← hF] at HFI
  clear h hok a1 a2 a3 a4 hF hl a7
  obtain ⟨i0, hi0, hz0, hz1, hz2⟩ := info_parts int_info
  go_enter Try.func77, Try.ntmps77
  go_upto_region 4 with (first
    | (refine wpList_load_row rfl 24 _ rfl w.heap.size rfl 24 _ (0, 0) _ (heap_alloc_new _ _) Try.underlying24 rfl (by kernel_rfl) ?_)
    | (go_at_call 105; refine HC.out.mono ?_; rintro e w1 ⟨rfl, hB1⟩))
  have hrow := (hB1.block w.heap.size (by simp)).trans (heap_alloc_new w (.cells #[Value.int .i64 lv, Value.int .i64 tu, Value.int .i64 ne, Value.int .i64 lo, Value.slice A n c] 24))
  have HR1 := Lib.hid (HR.out.below hB1)
  have HB1 := Lib.hid (HB.out.next hB1)
  have HROW := Lib.hid hrow
  have hlt : w.heap.size < w1.heap.size := (Array.getElem?_eq_some_iff.1 hrow).1
  have QK := Lib.hid (fun (W : World) (h : Below w1.heap.size w1 W) => (show W.cell? ⟨w.heap.size, 0, none⟩ = some (.int .i64 lv) ∧ W.cell? ⟨w.heap.size, 1, none⟩ = some (.int .i64 tu) ∧ W.cell? ⟨w.heap.size, 2, none⟩ = some (.int .i64 ne) ∧ W.cell? ⟨w.heap.size, 3, none⟩ = some (.int .i64 lo) ∧ W.cell? ⟨w.heap.size, 4, none⟩ = some (.slice A n c) from
    have g := (h.block _ hlt).trans hrow
    ⟨cell_of_row _ _ 0 _ _ _ g, cell_of_row _ _ 1 _ _ _ g, cell_of_row _ _ 2 _ _ _ g, cell_of_row _ _ 3 _ _ _ g, cell_of_row _ _ 4 _ _ _ g⟩))
  have Q1 := Lib.hid (show Below w1.heap.size w1 w1.drew from (Below.refl _ _).drew)
  clear HC HR HB hB1
  go_cut [5, 11, 16, 19] (fun v x1 x2 x3 wc => Hid (wc.ownsRow w.heap.size 3 1 v (3 + n) (ints (F :: ne :: lo :: xs))) ∧ Hid (Below w.heap.size w wc))
  case first =>
    have mixed : Try.prog.follows .mixedOrders = true := by kernel_rfl
    have d0 := cell_of_row _ _ 0 _ _ _ hrow
    have d1 := cell_of_row _ _ 1 _ _ _ hrow
    have d2 := cell_of_row _ _ 2 _ _ _ hrow
    have d3 := cell_of_row _ _ 3 _ _ _ hrow
    have d4 := cell_of_row _ _ 4 _ _ _ hrow
    go_region_held3 (fun w' : World => w'.cell? ⟨w.heap.size, 0, none⟩ = some (.int .i64 lv) ∧ w'.cell? ⟨w.heap.size, 1, none⟩ = some (.int .i64 tu) ∧ w'.cell? ⟨w.heap.size, 2, none⟩ = some (.int .i64 ne) ∧ w'.cell? ⟨w.heap.size, 3, none⟩ = some (.int .i64 lo) ∧ w'.cell? ⟨w.heap.size, 4, none⟩ = some (.slice A n c)) (first | go_keep | exact QK.out _ HB2.out | exact QK.out _ (HB2.out.alloc HB2.out.size _) | exact QK.out _ HB4.out) (first | (go_at_call 106; refine (HFI.out _).mono ?_; rintro e w2 ⟨rfl, hB2⟩; have HB2 := Lib.hid (Q1.out.next hB2); clear hB2) | (refine step_append_any _ rfl (.tmp 16) (.tmp 18) 22 rfl w.heap.size 3 i0 (.int .i64 0) 1 8 Try.underlying22 hi0 hz0 hz1 hz2 rfl (by omega) _ 3 [.int .i64 F, .int .i64 ne, .int .i64 lo] rfl (World.ownsRow_lit _ #[.int .i64 F, .int .i64 ne, .int .i64 lo] 3 (by have := HB2.out.size; omega) (by simp [maxLen]) rfl) _ A n c (ints xs) rfl (HR1.out.below (HB2.out.alloc HB2.out.size _)) (ints_one _) (by simp only [maxLen]; omega) (by omega) (by have := HB2.out.size; simp; omega) ?_; intro v2 w4 hown4 hg4 hat4; have HB4 := Lib.hid ((HB2.out.alloc HB2.out.size _).grown hg4 (by have := HB2.out.size; simp; omega) (fun q hq => by have h : some w2.heap.size = some q := hq; injection h with h; have := HB2.out.size; omega)); have HO4 := Lib.hid hown4; clear hg4 hat4 hown4))
    all_goals (go_wp2_with fail; go_meet; exact ⟨Lib.hid (by have := HO4.out; exact this), Lib.hid (HB1.out.next HB4.out)⟩)
  case rest =>
  obtain ⟨HO0, HB5⟩ := hcut
  clear QK Q1 HR1 HROW HFI hrow hlt
  have hs0 := HB5.out.size
  go_wp2
  go_loopw [5] (fun v wr => ∃ d : Nat, n + d ≤ 13 ∧ Hid (wr.ownsRow w.heap.size 3 1 v (3 + n + d) (ints (F :: ne :: lo :: (xs ++ List.replicate d 0)))) ∧ Hid (Below w.heap.size w wr)) (fun v _ => 16 - slLen v)
  case atStart => exact ⟨0, by omega, Lib.hid (by simpa using HO0.out), HB5⟩
  case round =>
    obtain ⟨d, hd, HO, HB2⟩ := hrel
    obtain ⟨A1, c1, rfl⟩ : ∃ A1 c1, u5 = .slice A1 (3 + n + d) c1 := by obtain ⟨A1, c1, e, _⟩ := own_form1 HO.out; exact ⟨A1, c1, e⟩
    by_cases hlt : n + d < 13
    · have hh : (3 + n + d : Nat) < (16 : Nat) := by omega
      go_wp2_with (first
        | (at_builtin
           refine wpList_append_any _ rfl _ _ _ rfl w.heap.size 3 i0 _ 1 8 Try.underlying22 hi0 hz0 hz1 hz2 rfl (by omega) _ _ _ rfl ((own_alloc_ HO.out) _) _ _ 1 1 [.int .i64 0] rfl (reads_one _ _ _) (by simp [Value.oneCell']) (by simp only [maxLen]; omega) (by omega) (by have := HB2.out.size; simp; omega) ?_
           intro v2 w2 hown2 hg2 hat2))
      obtain ⟨A2, c2, rfl, _⟩ := own_form1 hown2
      rw [← ints_more F ne lo xs d] at hown2
      have hb := (HB2.out.alloc HB2.out.size _).grown hg2 (by have := HB2.out.size; simp; omega) (fun q hq => own_ge HO.out hq)
      go_roundw
      case rel => exact ⟨d + 1, by omega, Lib.hid hown2, Lib.hid hb⟩
      case measure => simp [slLen]; omega
    · obtain rfl : d = 13 - n := by omega
      have he : nodeWords lv tu ne lo xs = F :: ne :: lo :: (xs ++ List.replicate (13 - n) 0) := by unfold nodeWords; rw [HL.out, ← HF.out]; rfl
      have hlen : (F :: ne :: lo :: (xs ++ List.replicate (13 - n) 0)).length = 3 + n + (13 - n) := by simp [HL.out]; omega
      have HE := Lib.hid he
      have HLE := Lib.hid hlen
      clear he hlen
      go_wp2
      go_ret2
      rw [HE.out]
      exact ⟨_, rfl, by rw [HLE.out]; exact HO.out, HB2.out⟩
theorem rw_len (s : ByteArray) (h : s.size ≤ 21) : (wordsOf s).length ≤ 3 := by rw [wordsOf_len]; unfold pieceCount; omega
theorem ints_rep (l : List Int) (d : Nat) : ints (l ++ List.replicate (d + 1) 0) = ints (l ++ List.replicate d 0) ++ [.int .i64 0] := by
  unfold ints
  rw [List.replicate_succ', ← List.append_assoc]
  simp
theorem pad_three : ∀ l : List Int, l.length ≤ 3 → l ++ List.replicate (3 - l.length) 0 = [pad3 l 0, pad3 l 1, pad3 l 2]
  | [], _ => rfl
  | [x], _ => rfl
  | [x, y], _ => rfl
  | [x, y, z], _ => rfl
  | x :: y :: z :: u :: l, h => by simp at h
/-- Three words are told, in a row of the call's own. -/
def OwnThree (w : World) (l : List Int) (e : Ending) (w' : World) : Prop := ∃ v, e = .returned v ∧ w'.ownsRow w.heap.size 3 1 v 3 (ints [pad3 l 0, pad3 l 1, pad3 l 2]) ∧ Below w.heap.size w w'
theorem rthree_any (s : ByteArray) (hs : s.size ≤ 21) (w : World) : Calls Try.prog 109 #[.string s] w (OwnThree w (wordsOf s)) := by
  have HW := Lib.hid (fun W => RR.lamplighterref02_Words.calls 1000 s (wordsOf s) W (refw_f 1000 s (by omega) (by unfold pieceCount; omega)))
  have h3 := rw_len s hs
  have HP := Lib.hid (pad_three _ h3)
  generalize wordsOf s = l at HW h3 HP ⊢
  obtain ⟨i0, hi0, hz0, hz1, hz2⟩ := info_parts int_info
  go_enter Try.func109, Try.ntmps109
  go_wp2_with (first
    | (go_at_call 107; refine (HW.out _).mono ?_; rintro e w1 ⟨v1, rfl, hR1, hB1⟩; obtain ⟨A1, c1, rfl, hc1, hC1⟩ := Kd.R_reads hR1)
    | (at_builtin
       refine wpList_append_any _ rfl _ _ _ rfl w.heap.size 3 i0 _ 1 8 Try.underlying22 hi0 hz0 hz1 hz2 rfl (by omega) _ 0 [] rfl (own_move (owns_empty w 3 1) (Nat.le_refl _) (fun q cur _ hq => (hB1.block q (Array.getElem?_eq_some_iff.1 hq).1).trans hq)) _ _ _ _ (ints l) rfl (RI_of_C hC1) (ints_one _) (by simp only [maxLen]; omega) (by omega) (by have := hB1.size; simp at this; omega) ?_
       intro v2 w2 hown2 hg2 hat2))
  have hb0 := (Below.refl w.heap.size w).alloc (Nat.le_refl _) (.cells #[] 3)
  have HB2 := Lib.hid ((hb0.next hB1).grown hg2 (hb0.next hB1).size (fun q hq => own_ge (owns_empty w 3 1) hq))
  rw [List.nil_append, Nat.zero_add] at hown2
  have HO2 := Lib.hid hown2
  clear hg2 hat2 hown2 hb0 hB1 hR1 hC1 HW
  go_loopw [3] (fun v wr => ∃ d : Nat, l.length + d ≤ 3 ∧ Hid (wr.ownsRow w.heap.size 3 1 v (l.length + d) (ints (l ++ List.replicate d 0))) ∧ Hid (Below w.heap.size w wr)) (fun v _ => 16 - slLen v)
  case atStart => exact ⟨0, by omega, Lib.hid (by simpa using HO2.out), HB2⟩
  case round =>
    obtain ⟨d, hd, HO, HB3⟩ := hrel
    obtain ⟨A2, c2, rfl⟩ : ∃ A1 c1, u3 = .slice A1 (l.length + d) c1 := by obtain ⟨A1, c1, e, _⟩ := own_form1 HO.out; exact ⟨A1, c1, e⟩
    by_cases hlt : l.length + d < 3
    · go_wp2_with (first
        | (at_builtin
           refine wpList_append_any _ rfl _ _ _ rfl w.heap.size 3 i0 _ 1 8 Try.underlying22 hi0 hz0 hz1 hz2 rfl (by omega) _ _ _ rfl ((own_alloc_ HO.out) _) _ _ 1 1 [.int .i64 0] rfl (reads_one _ _ _) (by simp [Value.oneCell']) (by simp only [maxLen]; omega) (by omega) (by have := HB3.out.size; simp; omega) ?_
           intro v2 w2 hown2 hg2 hat2))
      obtain ⟨A3, c3, rfl, _⟩ := own_form1 hown2
      rw [← ints_rep l d] at hown2
      have hb := (HB3.out.alloc HB3.out.size _).grown hg2 (by have := HB3.out.size; simp; omega) (fun q hq => own_ge HO.out hq)
      go_roundw
      case rel => exact ⟨d + 1, by omega, Lib.hid hown2, Lib.hid hb⟩
      case measure => simp [slLen]; omega
    · obtain rfl : d = 3 - l.length := by omega
      have he : l.length + (3 - l.length) = 3 := by omega
      have HO4 := Lib.hid (show wr.ownsRow w.heap.size 3 1 _ 3 _ from he ▸ HO.out)
      rw [HP.out] at HO4
      have HE := Lib.hid he
      clear he
      go_wp2
      go_ret
      exact ⟨_, rfl, by show wr.ownsRow w.heap.size 3 1 (Value.slice A2 (l.length + (3 - l.length)) c2) 3 _; rw [HE.out]; exact HO4.out, HB3.out⟩
theorem rrwords_bad (kind : Int) (key val : ByteArray) (ch : Int) (w : World) (hbad : recOk ⟨kind, key, val, ch⟩ = false) :
    Calls Try.prog 81 #[.agg #[.int .i64 kind, .string key, .string val, .int .i64 ch]] w (OwnTwo w [] 70) := by
  have HB := Lib.hid ((Below.refl w.heap.size w).alloc (Nat.le_refl _) (.cells #[Value.int .i64 kind, Value.string key, Value.string val, Value.int .i64 ch] 62))
  have HC := Lib.hid (fun W => rcheck_any kind key val ch W)
  rw [hbad] at HC
  go_enter Try.func81, Try.ntmps81
  go_wp2_with (first
    | (refine wpList_load_row rfl 62 _ rfl w.heap.size rfl 62 _ (0, 0) _ (heap_alloc_new _ _) Try.underlying62 rfl (by kernel_rfl) ?_)
    | (go_at_call 108; refine (HC.out _).mono ?_; rintro e w1 ⟨rfl, hB1⟩))
  go_ret2
  exact ⟨_, rfl, World.ownsRow_nil _ _ _ _, HB.out.next hB1⟩
theorem rrwords_any (kind : Int) (key val : ByteArray) (ch : Int) (w : World) (hok : recOk ⟨kind, key, val, ch⟩ = true) :
    Calls Try.prog 81 #[.agg #[.int .i64 kind, .string key, .string val, .int .i64 ch]] w (OwnTwo w (recWords kind key val ch) 0) := by
  obtain ⟨s1, s2⟩ := ok_sizes hok
  simp only at s1 s2
  have HB := Lib.hid ((Below.refl w.heap.size w).alloc (Nat.le_refl _) (.cells #[Value.int .i64 kind, Value.string key, Value.string val, Value.int .i64 ch] 62))
  have HC := Lib.hid (fun W => rcheck_any kind key val ch W)
  rw [hok] at HC
  have HTK := Lib.hid (rthree_any key s1)
  have HTV := Lib.hid (rthree_any val s2)
  have hv0 : ¬ kind = 1 → kind = 2 ∧ wordsOf val = [] := by
    intro h1
    have hok2 := hok
    unfold recOk at hok2
    rw [if_neg h1] at hok2
    split at hok2
    · simp only [Bool.and_eq_true, decide_eq_true_eq] at hok2
      exact ⟨by assumption, List.eq_nil_of_length_eq_zero (by rw [wordsOf_len]; unfold pieceCount; omega)⟩
    · cases hok2
  have hrw : recWords kind key val ch = recList kind (32 * (key.size : Int) + (val.size : Int)) (pad3 (wordsOf key) 0) (pad3 (wordsOf key) 1) (pad3 (wordsOf key) 2) (if kind = 2 then ch else pad3 (wordsOf val) 0) (pad3 (wordsOf val) 1) (pad3 (wordsOf val) 2) := rfl
  rw [hrw]
  unfold OwnThree at HTK HTV
  have hp : ¬ kind = 1 → pad3 (wordsOf val) 1 = 0 ∧ pad3 (wordsOf val) 2 = 0 := by intro h; rw [(hv0 h).2]; exact ⟨rfl, rfl⟩
  replace hv0 : ¬ kind = 1 → kind = 2 := fun h => (hv0 h).1
  generalize pad3 (wordsOf key) 0 = p0 at HTK ⊢
  generalize pad3 (wordsOf key) 1 = p1 at HTK ⊢
  generalize pad3 (wordsOf key) 2 = p2 at HTK ⊢
  generalize pad3 (wordsOf val) 0 = q0 at HTV ⊢
  generalize pad3 (wordsOf val) 1 = q1 at HTV hp ⊢
  generalize pad3 (wordsOf val) 2 = q2 at HTV hp ⊢
  obtain ⟨nn, hnn⟩ : ∃ nn : Int, nn = 32 * (key.size : Int) + (val.size : Int) := ⟨_, rfl⟩
  have e1 : IntKind.i64.wrap (32 * (key.size : Int)) = 32 * (key.size : Int) := by rw [IntKind.wrap_i64]; omega
  have e2 : IntKind.i64.wrap (32 * (key.size : Int) + (val.size : Int)) = 32 * (key.size : Int) + (val.size : Int) := by rw [IntKind.wrap_i64]; omega
  obtain ⟨i0, hi0, hz0, hz1, hz2⟩ := info_parts int_info
  have HV0 := Lib.hid hv0
  have HP := Lib.hid hp
  have HN := Lib.hid hnn
  rw [← hnn]
  obtain ⟨x0, hx0⟩ : ∃ x0, x0 = if kind = 2 then ch else q0 := ⟨_, rfl⟩
  rw [← hx0]
  have HX0 := Lib.hid hx0
  unfold recList
  obtain ⟨sm, hsm⟩ : ∃ sm, sm = sumOf [kind, nn, p0, p1, p2, x0, q1, q2, 0, 0, 0, 0, 0, 0, 0] := ⟨_, rfl⟩
  rw [← hsm]
  have HOF := Lib.hid (fun (A : Option Addr) (c : Nat) (W : World) (h : RI W A 15 [kind, nn, p0, p1, p2, x0, q1, q2, 0, 0, 0, 0, 0, 0, 0]) => rof_call A 15 c _ W h (by omega))
  rw [← hsm] at HOF
  clear hok hrw hv0 hp s1 s2 hnn hx0 hsm
  go_enter Try.func81, Try.ntmps81
  go_upto_region 4 with (first
    | (refine wpList_load_row rfl 62 _ rfl w.heap.size rfl 62 _ (0, 0) _ (heap_alloc_new _ _) Try.underlying62 rfl (by kernel_rfl) ?_)
    | (go_at_call 108; refine (HC.out _).mono ?_; rintro e w1 ⟨rfl, hB1⟩))
  have hrow := (hB1.block w.heap.size (by simp)).trans (heap_alloc_new w (.cells #[Value.int .i64 kind, Value.string key, Value.string val, Value.int .i64 ch] 62))
  have hlt : w.heap.size < w1.heap.size := (Array.getElem?_eq_some_iff.1 hrow).1
  have QK := Lib.hid (fun (W : World) (h : Below w1.heap.size w1 W) => (show W.cell? ⟨w.heap.size, 0, none⟩ = some (.int .i64 kind) ∧ W.cell? ⟨w.heap.size, 1, none⟩ = some (.string key) ∧ W.cell? ⟨w.heap.size, 2, none⟩ = some (.string val) ∧ W.cell? ⟨w.heap.size, 3, none⟩ = some (.int .i64 ch) from
    have g := (h.block _ hlt).trans hrow
    ⟨cell_of_row _ _ 0 _ _ _ g, cell_of_row _ _ 1 _ _ _ g, cell_of_row _ _ 2 _ _ _ g, cell_of_row _ _ 3 _ _ _ g⟩))
  have HB1 := Lib.hid (HB.out.next hB1)
  obtain ⟨k0, k1, k2, k3⟩ := QK.out _ (Below.refl _ _)
  clear hrow hB1 HB HC
  go_upto_if 17 with (first
    | (go_at_call 109; refine (HTK.out _).mono ?_; rintro e w2 ⟨v2, rfl, ho2, hB2⟩; obtain ⟨A2, c2, rfl, _⟩ := own_form1 ho2; obtain ⟨l0, l1, l2, l3⟩ := QK.out _ hB2))
  have HB2 := Lib.hid hB2
  have HO2 := Lib.hid ho2
  clear k0 k1 k2 k3 ho2 hB2
  go_cut [5, 18, 19, 20, 21, 22, 23, 24, 25, 26, 27] (fun v5 x18 x19 x20 x21 x22 x23 x24 x25 x26 x27 wc => Hid (wc.ownsRow w1.heap.size 3 1 v5 6 (ints [p0, p1, p2, x0, q1, q2])) ∧ Hid (Below w1.heap.size w1 wc))
  case first =>
    by_cases kd : kind = 1
    · subst kd
      obtain rfl : x0 = q0 := HX0.out
      go_wp2_with (first
        | (go_at_call 109; refine (HTV.out _).mono ?_; rintro e w3 ⟨v3, rfl, ho3, hB3⟩; obtain ⟨A3, c3, rfl, hr3⟩ := own_form1 ho3)
        | (at_builtin
           refine wpList_append_any _ rfl _ _ _ rfl w1.heap.size 3 i0 _ 1 8 Try.underlying22 hi0 hz0 hz1 hz2 rfl (by omega) _ 3 _ rfl (own_move HO2.out (Nat.le_refl _) (fun q cur _ hq => (hB3.block q (Array.getElem?_eq_some_iff.1 hq).1).trans hq)) _ _ _ _ _ rfl hr3 (ints_one _) (by simp only [maxLen]; omega) (by omega) (by have := hB3.size; have := HB2.out.size; omega) ?_
           intro v4 w4 hown4 hg4 hat4))
      go_meet
      exact ⟨Lib.hid (by simpa [ints] using hown4), Lib.hid ((HB2.out.next hB3).grown hg4 (HB2.out.next hB3).size (fun q hq => own_ge HO2.out hq))⟩
    · have hk2 := HV0.out kd
      obtain ⟨hq1, hq2⟩ := HP.out kd
      subst hk2 hq1 hq2
      obtain rfl : x0 = ch := HX0.out
      have hw3 : w1.heap.size ≤ w2.heap.size := HB2.out.size
      go_wp2_with (first
        | (at_builtin
           refine wpList_append_any _ rfl _ _ _ rfl w1.heap.size 3 i0 _ 1 8 Try.underlying22 hi0 hz0 hz1 hz2 rfl (by omega) _ 3 _ rfl (own_alloc_ HO2.out _) _ _ _ _ _ rfl (RI.own (xs := [x0, 0, 0]) (World.ownsRow_lit w2 #[.int .i64 x0, .int .i64 0, .int .i64 0] 3 hw3 (by simp [maxLen]) rfl)) (ints_one _) (by simp only [maxLen]; omega) (by omega) (by simp; omega) ?_
           intro v4 w4 hown4 hg4 hat4))
      go_meet
      exact ⟨Lib.hid (by simpa [ints] using hown4), Lib.hid ((HB2.out.alloc HB2.out.size _).grown hg4 (HB2.out.alloc HB2.out.size _).size (fun q hq => own_ge HO2.out hq))⟩
  case rest =>
  obtain ⟨HO5, HB5⟩ := hcut
  obtain ⟨A5, c5, rfl, _⟩ := own_form1 HO5.out
  have hw5 : w1.heap.size ≤ wc.heap.size := HB5.out.size
  clear l0 l1 l2 l3 HO2 HB2 HTK HTV HV0 HP
  go_upto_region 9 with (first
    | (at_builtin
       refine wpList_append_any _ rfl _ _ _ rfl w1.heap.size 3 i0 _ 1 8 Try.underlying22 hi0 hz0 hz1 hz2 rfl (by omega) _ 6 _ rfl (own_alloc_ HO5.out _) _ _ _ _ _ rfl (RI.own (xs := [0, 0, 0, 0, 0, 0, 0]) (World.ownsRow_lit wc #[.int .i64 0, .int .i64 0, .int .i64 0, .int .i64 0, .int .i64 0, .int .i64 0, .int .i64 0] 7 hw5 (by simp [maxLen]) rfl)) (ints_one _) (by simp only [maxLen]; omega) (by omega) (by simp; omega) ?_
       intro v6 w6 hown6 hg6 hat6))
  have HB6 := Lib.hid ((HB5.out.alloc HB5.out.size _).grown hg6 (HB5.out.alloc HB5.out.size _).size (fun q hq => own_ge HO5.out hq))
  have HO6 := Lib.hid (show w6.ownsRow w1.heap.size 3 1 v6 13 (ints [p0, p1, p2, x0, q1, q2, 0, 0, 0, 0, 0, 0, 0]) by simpa [ints] using hown6)
  clear hown6 hg6 hat6 HO5 HB5 hw5
  obtain ⟨R, hR⟩ : ∃ R, R = [p0, p1, p2, x0, q1, q2, 0, 0, 0, 0, 0, 0, 0] := ⟨_, rfl⟩
  rw [← hR] at HO6
  have HRR := Lib.hid hR
  clear hR
  obtain ⟨A6, c6, rfl, hr6⟩ := own_form1 HO6.out
  have HR6 := Lib.hid (show RI w6 A6 13 R from hr6)
  obtain ⟨k0, k1, k2, k3⟩ := QK.out _ HB6.out
  have hw6 : w1.heap.size ≤ w6.heap.size := HB6.out.size
  clear hr6
  go_upto_region 10 with fail
  have HO7 := Lib.hid (World.ownsRow_lit (base := w6.heap.size) (e := 3) (size := 1) w6 #[.int .i64 kind, .int .i64 (32 * (key.size : Int) + (val.size : Int))] 2 (Nat.le_refl _) (by simp [maxLen]) rfl)
  have HB7 := Lib.hid (HB6.out.alloc hw6 (.cells #[.int .i64 kind, .int .i64 (32 * (key.size : Int) + (val.size : Int))] 3))
  have HR7 := Lib.hid (HR6.out.below ((Below.refl _ w6).alloc (Nat.le_refl _) (.cells #[.int .i64 kind, .int .i64 (32 * (key.size : Int) + (val.size : Int))] 3)))
  have H67 := Lib.hid ((Below.refl w6.heap.size w6).alloc (Nat.le_refl _) (.cells #[.int .i64 kind, .int .i64 (32 * (key.size : Int) + (val.size : Int))] 3))
  rw [← HN.out] at *
  generalize hw7 : w6.alloc (.cells #[.int .i64 kind, .int .i64 nn] 3) = w7 at *
  clear hw7 k0 k1 k2 k3 HO6 HB6 QK
  go_upto_region 11 with (first
    | (at_builtin
       refine wpList_append_any _ rfl _ _ _ rfl w7.heap.size 3 i0 _ 1 8 Try.underlying22 hi0 hz0 hz1 hz2 rfl (by omega) _ 0 [] rfl (owns_empty w7 3 1) _ _ _ _ _ rfl (RI.below (RI.own (xs := [kind, nn]) HO7.out) ((Below.refl _ w7).alloc (Nat.le_refl _) _)) (ints_one _) (by simp only [maxLen]; omega) (by omega) (by simp) ?_
       intro v8 w8 hown8 hg8 hat8
       have HB8 := Lib.hid (((Below.refl _ w7).alloc (Nat.le_refl _) (.cells #[] 3)).grown hg8 (by simp) (fun q hq => own_ge (owns_empty w7 3 1) hq))
       have HO8 := Lib.hid (show w8.ownsRow w7.heap.size 3 1 v8 2 (ints [kind, nn]) by simpa using hown8)
       clear hown8 hg8 hat8)
    | (at_builtin
       refine wpList_append_any _ rfl _ _ _ rfl w7.heap.size 3 i0 _ 1 8 Try.underlying22 hi0 hz0 hz1 hz2 rfl (by omega) _ 2 _ rfl HO8.out _ _ _ _ _ rfl (HR7.out.below HB8.out) (ints_one _) (by simp only [maxLen]; omega) (by omega) HB8.out.size ?_
       intro v9 w9 hown9 hg9 hat9
       have HB9 := Lib.hid (HB8.out.grown hg9 HB8.out.size (fun q hq => own_ge HO8.out hq))
       have HO9 := Lib.hid (show w9.ownsRow w7.heap.size 3 1 v9 15 (ints ([kind, nn] ++ R)) by simpa [ints] using hown9)
       obtain ⟨A9, c9, rfl, hr9⟩ := own_form1 HO9.out
       clear hown9 hg9 hat9)
    | (go_at_call 110; refine (HOF.out A9 c9 _ (HRR.out ▸ hr9)).mono ?_; rintro e w10 ⟨rfl, hb10⟩))
  have HB10 := Lib.hid (HB9.out.next hb10)
  have HO10 := Lib.hid (own_move HO7.out (Nat.le_refl _) (fun q cur _ hq => (HB10.out.block q (Array.getElem?_eq_some_iff.1 hq).1).trans hq))
  have HBA := Lib.hid (HB7.out.next HB10.out)
  have H6A := Lib.hid (H67.out.next HB10.out)
  have hwa : w6.heap.size ≤ w10.heap.size := H6A.out.size
  have hw16 : w.heap.size ≤ w6.heap.size := by omega
  clear hr9 hb10 HO8 HB8 HO9 HB9 HB10 HR7 HO7 HB7 H67
  go_wp2_with (first
    | (at_builtin
       refine wpList_append_any _ rfl _ _ _ rfl w6.heap.size 3 i0 _ 1 8 Try.underlying22 hi0 hz0 hz1 hz2 rfl (by omega) _ 2 _ rfl (own_alloc_ HO10.out _) _ _ 1 1 [.int .i64 sm] rfl (reads_one _ _ _) (by simp [Value.oneCell']) (by simp only [maxLen]; omega) (by omega) (by simp; omega) ?_
       intro v11 w11 hown11 hg11 hat11
       have HB11 := Lib.hid ((H6A.out.alloc hwa (.cells #[.int .i64 sm] 3)).grown hg11 (by simp; omega) (fun q hq => own_ge HO10.out hq))
       have HBB := Lib.hid ((HBA.out.alloc HBA.out.size (.cells #[.int .i64 sm] 3)).grown hg11 (by have := HBA.out.size; simp; omega) (fun q hq => Nat.le_trans hw6 (own_ge HO10.out hq)))
       clear hat11)
    | (at_builtin
       refine wpList_append_any _ rfl _ _ _ rfl w6.heap.size 3 i0 _ 1 8 Try.underlying22 hi0 hz0 hz1 hz2 rfl (by omega) _ 3 _ rfl hown11 _ _ _ _ _ rfl (HR6.out.below HB11.out) (ints_one _) (by simp only [maxLen]; omega) (by omega) HB11.out.size ?_
       intro v12 w12 hown12 hg12 hat12
       have HB12 := Lib.hid (HBB.out.grown hg12 HBB.out.size (fun q hq => Nat.le_trans hw6 (own_ge hown11 hq)))))
  have hlst : ints [kind, nn, sm, p0, p1, p2, x0, q1, q2, 0, 0, 0, 0, 0, 0, 0] = ints [kind, nn] ++ [.int .i64 sm] ++ ints R := by rw [HRR.out]; rfl
  go_ret2
  exact ⟨_, rfl, by rw [hlst]; exact own_move hown12 hw16 (fun _ _ _ h => h), HB1.out.next HB12.out⟩
namespace RR
def lamplighterref09_Words.f (k : Nat) (a0 a1 a2 a3 : Int) (l4 : List Int) : Option (List Int × Int) :=
  if l4.length ≤ 1000000000 then some (if nodeOk a0 a1 a2 a3 l4 = true then (nodeWords a0 a1 a2 a3 l4, 0) else ([], 90)) else none
theorem lamplighterref09_Words.calls (k : Nat) (a0 a1 a2 a3 : Int) (A4 : Option Addr) (c4 : Nat) (l4 : List Int) (r1 : List Int) (r2 : Int) (w : World) (hr4 : Kd.C (Kd.int .i64) w A4 l4.length l4) (hc4 : l4.length ≤ c4) (h : lamplighterref09_Words.f k a0 a1 a2 a3 l4 = some (r1, r2)) :
    Calls Try.prog 77 #[.agg #[.int .i64 a0, .int .i64 a1, .int .i64 a2, .int .i64 a3, .slice A4 l4.length c4]] w fun e w' => ∃ v0_ : Value, e = .returned (.tuple #[v0_, .int .i64 r2]) ∧ Kd.R (Kd.int .i64) 3 w' w.heap.size (fun _ => True) v0_ r1 ∧ Below w.heap.size w w' := by
  unfold lamplighterref09_Words.f at h
  split at h
  · rename_i hs
    injection h with h
    cases hok : nodeOk a0 a1 a2 a3 l4 with
    | true =>
      rw [hok, if_pos rfl] at h
      injection h with h1 h2
      subst h1 h2
      refine (rnwords_any a0 a1 a2 a3 A4 l4.length c4 l4 w (RI_of_C hr4) hs hok).mono ?_
      rintro e w' ⟨v, rfl, ho, hb⟩
      exact ⟨v, rfl, R_of_ints ho, hb⟩
    | false =>
      rw [hok, if_neg (by simp)] at h
      injection h with h1 h2
      subst h1 h2
      refine (rnwords_bad a0 a1 a2 a3 A4 l4.length c4 l4 w (RI_of_C hr4) hs hok).mono ?_
      rintro e w' ⟨v, rfl, ho, hb⟩
      exact ⟨v, rfl, R_of_ints ho, hb⟩
  · cases h
def lamplighterref07_Words.f (k : Nat) (a0 : Int) (a1 a2 : ByteArray) (a3 : Int) : Option (List Int × Int) := some (if recOk ⟨a0, a1, a2, a3⟩ = true then (recWords a0 a1 a2 a3, 0) else ([], 70))
theorem lamplighterref07_Words.calls (k : Nat) (a0 : Int) (a1 a2 : ByteArray) (a3 : Int) (r1 : List Int) (r2 : Int) (w : World) (h : lamplighterref07_Words.f k a0 a1 a2 a3 = some (r1, r2)) :
    Calls Try.prog 81 #[.agg #[.int .i64 a0, .string a1, .string a2, .int .i64 a3]] w fun e w' => ∃ v0_ : Value, e = .returned (.tuple #[v0_, .int .i64 r2]) ∧ Kd.R (Kd.int .i64) 3 w' w.heap.size (fun _ => True) v0_ r1 ∧ Below w.heap.size w w' := by
  unfold lamplighterref07_Words.f at h
  injection h with h
  cases hok : recOk ⟨a0, a1, a2, a3⟩ with
  | true =>
    rw [hok, if_pos rfl] at h
    injection h with h1 h2
    subst h1 h2
    refine (rrwords_any a0 a1 a2 a3 w hok).mono ?_
    rintro e w' ⟨v, rfl, ho, hb⟩
    exact ⟨v, rfl, R_of_ints ho, hb⟩
  | false =>
    rw [hok, if_neg (by simp)] at h
    injection h with h1 h2
    subst h1 h2
    refine (rrwords_bad a0 a1 a2 a3 w hok).mono ?_
    rintro e w' ⟨v, rfl, ho, hb⟩
    exact ⟨v, rfl, R_of_ints ho, hb⟩
end RR
theorem refnw_f (k : Nat) (lv tu ne lo : Int) (sl : List Int) (hs : sl.length ≤ 1000000000) (hk : sl.length + 20 < k) :
    RR.lamplighterref09_Words.f k lv tu ne lo sl = some (if nodeOk lv tu ne lo sl = true then (nodeWords lv tu ne lo sl, 0) else ([], 90)) := if_pos hs
theorem refrw_f (k : Nat) (kind : Int) (key val : ByteArray) (child : Int) (hk : 60 < k) :
    RR.lamplighterref07_Words.f k kind key val child = some (if recOk ⟨kind, key, val, child⟩ = true then (recWords kind key val child, 0) else ([], 70)) := rfl
end Go.Proofs.Ytliaemoomhfcdaa
