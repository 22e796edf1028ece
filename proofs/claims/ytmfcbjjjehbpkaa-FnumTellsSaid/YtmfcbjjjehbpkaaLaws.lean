/- The walks of the laws on fnum that need no reference. -/
import Derived.Test.YtmfcbjjjehbpkaaWalks
namespace Go.Proofs.Ytmfcbjjjehbpkaa
open Go.RowKit
open Fl (half inf rung neg nan sv)
set_option maxHeartbeats 1000000
set_option maxRecDepth 100000

theorem _root_.Go.RowKit.Below.next {w a b : World} (h : Below w.heap.size w a) (k : Below a.heap.size a b) : Below w.heap.size w b := h.trans (k.mono h.size)

def key0 : ByteArray := ⟨#[128, 0, 0, 0, 0, 0, 0, 0]⟩

theorem awake_any (w : World) : Calls Try.prog 10 #[] w fun e w' => e = .returned (.bool true) ∧ Below w.heap.size w w' := by
  have q1 : (FloatKind.f64.format.order 0 0 == some Ordering.eq) = true := by decide
  go_enter Try.func10, Try.ntmps10
  go_wp2_with fail
  refine (back_any _ _ rfl).mono ?_
  rw [show unrank (valN (⟨#[128, 0, 0, 0, 0, 0, 0, 0]⟩ : ByteArray) 8) = 0 from by decide +kernel]
  rintro e w1 ⟨rfl, rfl⟩
  go_wp2_with fail
  refine (back_no _ _ (by decide)).mono ?_
  rintro e w1 ⟨rfl, rfl⟩
  go_wp2_with fail
  refine (class_any 0 (Lib.hid (by decide)) _).mono ?_
  rw [show ((cls 0 : Nat) : Int) = 5 from by decide]
  rintro e w1 ⟨rfl, rfl⟩
  go_wp2_with fail
  refine (class_any 13832806255468478464 (Lib.hid (by decide)) _).mono ?_
  rw [show ((cls 13832806255468478464 : Nat) : Int) = 3 from by decide]
  rintro e w1 ⟨rfl, rfl⟩
  go_wp2_with fail
  refine (rank_any 0 (Lib.hid (by decide)) _).mono ?_
  rw [show ((rank 0 : Nat) : Int) = 9223372036854775808 from by decide]
  rintro e w1 ⟨rfl, rfl⟩
  go_wp2_with fail
  refine (less_any _ _ (Lib.hid (by decide)) (Lib.hid (by decide)) _).mono ?_
  rw [show decide (rank 13830554455654793216 < rank 4607182418800017408) = true from by decide]
  rintro e w1 ⟨rfl, rfl⟩
  go_wp2_with fail
  refine (key_any 0 (Lib.hid (by decide)) _).mono ?_
  rw [show keyStr (rank 0) = (⟨#[128, 0, 0, 0, 0, 0, 0, 0]⟩ : ByteArray) from by decide +kernel]
  rintro e w2 ⟨rfl, hB⟩
  go_wp2_with fail
  go_ret
  exact ⟨rfl, hB⟩

theorem rank_inj {a b : Nat} (ha : a < 18446744073709551616) (hb : b < 18446744073709551616) (h : rank a = rank b) : a = b := by
  unfold rank at h
  have := eh
  split at h <;> split at h <;> omega

theorem rank_of_sv {a b : Nat} (ha : a < 18446744073709551616) (hb : b < 18446744073709551616) (h : sv a < sv b) : rank a < rank b := by
  have h0 := eh
  have h1 : rung a = a % 9223372036854775808 := rfl
  have h2 : rung b = b % 9223372036854775808 := rfl
  rw [sv_nat, sv_nat] at h
  unfold rank
  split at h <;> split at h <;> split <;> split <;> omega

theorem lt_rank {a b : Nat} (ha : a < 18446744073709551616) (hb : b < 18446744073709551616) (h : (FloatKind.f64.format.order a b == some Ordering.lt) = true) : rank a < rank b := by
  rw [(ordB a b ha hb).2.1] at h
  simp at h
  exact rank_of_sv ha hb h.2
theorem gt_rank {a b : Nat} (ha : a < 18446744073709551616) (hb : b < 18446744073709551616) (h : (FloatKind.f64.format.order a b == some Ordering.gt) = true) : rank b < rank a := by
  rw [(ordB a b ha hb).1] at h
  simp at h
  exact rank_of_sv hb ha h.2

theorem order_walk (a b : Nat) (ha : Hid (a < 18446744073709551616)) (hb : Hid (b < 18446744073709551616)) (w : World) :
    Calls Try.prog 4 #[.float .f64 a, .float .f64 b] w fun e w' => e = .returned (.bool true) ∧ Below w.heap.size w w' := by
  have h22 := bits_run
  have cases4 : a = b ∨ (¬ a = b ∧ ∃ l g : Bool, decide (rank a < rank b) = l ∧ decide (rank b < rank a) = !l ∧ (FloatKind.f64.format.order a b == some Ordering.lt) = (l && g) ∧ (FloatKind.f64.format.order a b == some Ordering.gt) = (!l && g)) := by
    by_cases he : a = b
    · exact .inl he
    · refine .inr ⟨he, ?_⟩
      have hne : rank a ≠ rank b := fun e => he (rank_inj ha.out hb.out e)
      have h1 := fun h => lt_rank ha.out hb.out h
      have h2 := fun h => gt_rank ha.out hb.out h
      by_cases hl : rank a < rank b
      · refine ⟨true, FloatKind.f64.format.order a b == some Ordering.lt, by simp [hl], by simp; omega, by simp, ?_⟩
        cases hg : (FloatKind.f64.format.order a b == some Ordering.gt) with
        | false => rfl
        | true => have := h2 hg; omega
      · refine ⟨false, FloatKind.f64.format.order a b == some Ordering.gt, by simp [hl], by simp; omega, ?_, by simp⟩
        cases hg : (FloatKind.f64.format.order a b == some Ordering.lt) with
        | false => rfl
        | true => have := h1 hg; omega
  rcases cases4 with rfl | ⟨hne, l, g, h1, h2, h3, h4⟩
  · have h1 : decide (rank a < rank a) = false := by simp
    go_enter Try.func4, Try.ntmps4
    go_wp2_with fail
    refine (awake_any _).mono ?_
    rintro e w1 ⟨rfl, hB1⟩
    go_wp2_with fail
    refine (less_any _ _ ha ha _).mono ?_
    rw [h1]
    rintro e w2 ⟨rfl, rfl⟩
    go_wp2_with fail
    refine (less_any _ _ ha ha _).mono ?_
    rw [h1]
    rintro e w2 ⟨rfl, rfl⟩
    go_wp2
    go_ret
    exact ⟨rfl, hB1⟩
  · have h5 : ((a : Int) == (b : Int)) = false := by rw [beq_eq_false_iff_ne]; omega
    have h6 : (a == b) = false := by rw [beq_eq_false_iff_ne]; omega
    have H1 := Lib.hid h1
    have H2 := Lib.hid h2
    clear h1 h2 hne
    cases l <;> cases g
    all_goals
      simp only [Bool.and_true, Bool.and_false, Bool.not_true, Bool.not_false] at h3 h4 H2
      go_enter Try.func4, Try.ntmps4
      go_wp2_with fail
      refine (awake_any _).mono ?_
      rintro e w1 ⟨rfl, hB1⟩
      go_wp2_with fail
      refine (less_any _ _ ha hb _).mono ?_
      rw [H1.out]
      rintro e w2 ⟨rfl, rfl⟩
      go_wp2_with fail
      refine (less_any _ _ hb ha _).mono ?_
      rw [H2.out]
      rintro e w2 ⟨rfl, rfl⟩
      go_wp2
      go_ret
      exact ⟨rfl, hB1⟩

theorem inf_any (w : World) : Calls Try.prog 24 #[.int .i64 (-1)] w fun e w' => e = .returned (.float .f64 18442240474082181120) ∧ w = w' := by
  have h23 := from_run
  go_enter Try.func24, Try.ntmps24
  go_wp2
  go_ret
  exact ⟨rfl, rfl⟩
theorem inf_pos (w : World) : Calls Try.prog 24 #[.int .i64 1] w fun e w' => e = .returned (.float .f64 9218868437227405312) ∧ w = w' := by
  have h23 := from_run
  go_enter Try.func24, Try.ntmps24
  go_wp2
  go_ret
  exact ⟨rfl, rfl⟩
theorem cs_eq : (bits BinOp.or IntKind.u64 (bits BinOp.andNot IntKind.u64 0 9223372036854775808) (bits BinOp.and IntKind.u64 13830554455654793216 9223372036854775808)).toNat = 9223372036854775808 := by
  decide +kernel
theorem copysign_any (w : World) : Calls Try.prog 25 #[.float .f64 0, .float .f64 13830554455654793216] w fun e w' => e = .returned (.float .f64 9223372036854775808) ∧ w = w' := by
  have h23 := from_run
  have h22 := bits_run
  go_enter Try.func25, Try.ntmps25
  go_wp2
  go_ret
  exact ⟨ret_float cs_eq, rfl⟩

/-- A number with its sign turned. -/
def flip (b : Nat) : Nat := if b < half then b + half else b - half
theorem flip_xor (b : Nat) (h : b < 18446744073709551616) : b ^^^ half = flip b := by
  unfold flip
  by_cases h1 : b < half
  · rw [if_pos h1, xor_half h1]
  · rw [if_neg h1]
    have h2 := xor_half (a := b - half) (by have := eh; omega)
    rw [Nat.sub_add_cancel (by omega)] at h2
    have h3 : b ^^^ half = (b - half ^^^ half) ^^^ half := by rw [h2]
    rw [h3, Nat.xor_assoc, Nat.xor_self, Nat.xor_zero]
theorem neg_run (b : Nat) (h : b < 18446744073709551616) (w : World) : (Op.unary UnOp.neg (.float .f64 b)).run Try.prog w = .ok (.float .f64 (flip b)) w := by
  rw [← flip_xor b h]
  rfl
theorem flip_lt (b : Nat) (h : b < 18446744073709551616) : flip b < 18446744073709551616 := by
  unfold flip; have := eh; split <;> omega

theorem gt_parts {a b : Nat} (ha : a < 18446744073709551616) (hb : b < 18446744073709551616) (h : (FloatKind.f64.format.order a b == some Ordering.gt) = true) : nan a = false ∧ nan b = false ∧ sv b < sv a := by
  rw [(ordB a b ha hb).1] at h
  simp at h
  exact ⟨h.1.1, h.1.2, h.2⟩

/-! ### Strings of keys -/
def be (l : List UInt8) : Nat := l.foldl (fun r c => r * 256 + c.toNat) 0
theorem be_from (l : List UInt8) (r : Nat) : l.foldl (fun r c => r * 256 + c.toNat) r = r * 256 ^ l.length + be l := by
  induction l generalizing r with
  | nil => simp [be]
  | cons c l ih =>
    have h1 := ih (r * 256 + c.toNat)
    have h2 := ih (0 * 256 + c.toNat)
    simp only [be, List.foldl_cons, List.length_cons] at *
    rw [h1, h2, Nat.pow_succ, Nat.add_mul]
    simp [Nat.mul_assoc, Nat.mul_comm 256, Nat.add_assoc]
theorem be_cons (c : UInt8) (l : List UInt8) : be (c :: l) = c.toNat * 256 ^ l.length + be l := by
  have := be_from l (0 * 256 + c.toNat)
  unfold be at *
  rw [List.foldl_cons, this]
  simp
theorem be_lt (l : List UInt8) : be l < 256 ^ l.length := by
  induction l with
  | nil => simp [be]
  | cons c l ih =>
    rw [be_cons, List.length_cons, Nat.pow_succ]
    have h := c.toNat_lt
    have : c.toNat * 256 ^ l.length + 256 ^ l.length ≤ 256 * 256 ^ l.length := by
      rw [← Nat.succ_mul]; exact Nat.mul_le_mul_right _ (by omega)
    omega
theorem bytesLess_be : ∀ (l m : List UInt8), l.length = m.length → Op.bytesLess l m = decide (be l < be m)
  | [], [], _ => by simp [Op.bytesLess, be]
  | [], _ :: _, h => by simp at h
  | _ :: _, [], h => by simp at h
  | a :: x, b :: y, h => by
    have hl : x.length = y.length := by simpa using h
    rw [Op.bytesLess, bytesLess_be x y hl, be_cons, be_cons, hl]
    have h1 := be_lt x
    have h2 := be_lt y
    rw [hl] at h1
    generalize 256 ^ y.length = p at *
    have e1 : (a == b) = decide (a.toNat = b.toNat) := by
      rw [Bool.eq_iff_iff]; simp [UInt8.toNat_inj]
    have e2 : decide (a < b) = decide (a.toNat < b.toNat) := by
      rw [Bool.eq_iff_iff]; simp [UInt8.lt_iff_toNat_lt]
    rw [e1, e2]
    rcases Nat.lt_trichotomy a.toNat b.toNat with h3 | h3 | h3
    · have : (a.toNat + 1) * p ≤ b.toNat * p := Nat.mul_le_mul_right _ h3
      rw [Nat.add_mul] at this
      simp [h3]; omega
    · rw [h3]; simp
    · have : (b.toNat + 1) * p ≤ a.toNat * p := Nat.mul_le_mul_right _ h3
      rw [Nat.add_mul] at this
      simp [show ¬ a.toNat < b.toNat from by omega, show ¬ a.toNat = b.toNat from by omega]; omega

theorem key_toList (n : Nat) : (keyStr n).toList = keyList n := by
  rw [ByteArray.toList_eq]
  simp [keyStr]
theorem keyList_len (n : Nat) : (keyList n).length = 8 := by simp [keyList]
theorem kb_nat (n i : Nat) : (kb n i).toNat = n / 2 ^ (8 * (7 - i)) % 256 := by
  unfold kb
  rw [UInt8.toNat_ofNat']
  omega
theorem keyList_eq (n : Nat) : keyList n = [kb n 0, kb n 1, kb n 2, kb n 3, kb n 4, kb n 5, kb n 6, kb n 7] := by
  simp [keyList, List.range_succ]
theorem be_key (n : Nat) (h : n < 18446744073709551616) : be (keyList n) = n := by
  rw [keyList_eq]
  simp only [be, List.foldl_cons, List.foldl_nil, kb_nat]
  omega
theorem key_less (n m : Nat) (hn : n < 18446744073709551616) (hm : m < 18446744073709551616) : Op.bytesLess (keyStr n).toList (keyStr m).toList = decide (n < m) := by
  rw [key_toList, key_toList, bytesLess_be _ _ (by rw [keyList_len, keyList_len]), be_key n hn, be_key m hm]
theorem key_val (n : Nat) (h : n < 18446744073709551616) : valN (keyStr n) 8 = n := by
  have h1 : valN (keyStr n) 8 = be ((keyList n).take 8) := by simp [valN, keyStr, be]
  rw [h1, List.take_of_length_le (by rw [keyList_len]; omega), be_key n h]
theorem key_size (n : Nat) : (keyStr n).size = 8 := by
  show ((keyList n).toArray).size = 8
  simp [keyList_len]
theorem rank_lt (b : Nat) (h : b < 18446744073709551616) : rank b < 18446744073709551616 := by
  unfold rank; have := eh; split <;> omega
theorem unrank_rank (b : Nat) (h : b < 18446744073709551616) : unrank (rank b) = b := by
  unfold unrank rank; have := eh; split <;> split <;> omega
theorem rank_unrank (b : Nat) (h : b < 18446744073709551616) : rank (unrank b) = b := by
  unfold unrank rank; have := eh; split <;> split <;> omega
theorem unrank_lt (b : Nat) (h : b < 18446744073709551616) : unrank b < 18446744073709551616 := by
  unfold unrank; have := eh; split <;> omega

theorem word_lt {b : Nat} (h : (Lit.float .f64 b).wf = true) : Hid (b < 18446744073709551616) := by
  have h1 : b < 2 ^ 64 := by simpa [Lit.wf] using h
  exact h1
theorem u64_of {a : Int} (h : (Lit.int .u64 a).wf = true) : ∃ n : Nat, a = (n : Int) ∧ Hid (n < 18446744073709551616) := by
  have h1 : 0 ≤ a ∧ a < 18446744073709551616 := by
    simp [Lit.wf, IntKind.min, IntKind.max, IntKind.signed, IntKind.bits] at h
    omega
  obtain ⟨n, rfl⟩ := Int.eq_ofNat_of_zero_le h1.1
  exact ⟨n, rfl, Lib.hid (by omega)⟩
end Go.Proofs.Ytmfcbjjjehbpkaa
