/- The walks of the fnum functions and of what they call of package math. -/
import Derived.Test.YtmfcbjjjehbpkaaProg
import Derived.Test.YtmfcbjjjehbpkaaFl
import Derived.WalkKit
import Derived.Below
import Derived.Carry
import Derived.KernelRfl
import Derived.IntWalk
import Derived.Laws.Rows
import Derived.WalkLawsBesides
import Derived.WalkSpells
import Derived.Lib.Hide
namespace Go.Proofs.Ytmfcbjjjehbpkaa
open Go.RowKit
open Fl (half inf rung neg nan sv)
set_option maxHeartbeats 400000
set_option maxRecDepth 100000

theorem bits_run (b : Nat) (w : World) : (callFunc 22 #[.float .f64 b]).run Try.prog w = .ok (.value (.int .u64 (b : Int))) w := by kernel_rfl
theorem from_run (z : Int) (w : World) : (callFunc 23 #[.int .u64 z]).run Try.prog w = .ok (.value (.float .f64 z.toNat)) w := by kernel_rfl

theorem ret_int {k : IntKind} {a b : Int} (h : a = b) : Ending.returned (.int k a) = .returned (.int k b) := by rw [h]
theorem ret_bool {a b : Bool} (h : a = b) : Ending.returned (.bool a) = .returned (.bool b) := by rw [h]
theorem ret_float {a b : Nat} (h : a = b) : Ending.returned (.float .f64 a) = .returned (.float .f64 b) := by rw [h]

theorem wrap_u64 (n : Int) : IntKind.u64.wrap n = n % 18446744073709551616 := by simp [IntKind.wrap, IntKind.bits, IntKind.signed]

theorem bits64 (a b : Nat) (ha : a < 18446744073709551616) (hb : b < 18446744073709551616) :
    bits .xor .u64 (a : Int) (b : Int) = ((a ^^^ b : Nat) : Int) ∧ bits .or .u64 (a : Int) (b : Int) = ((a ||| b : Nat) : Int) ∧ bits .and .u64 (a : Int) (b : Int) = ((a &&& b : Nat) : Int) ∧
    bits .andNot .u64 (a : Int) (b : Int) = ((a &&& (18446744073709551615 - b) : Nat) : Int) := by
  have hA : BitVec.ofInt 64 (a : Int) = BitVec.ofNat 64 a := BitVec.ofInt_natCast ..
  have hB : BitVec.ofInt 64 (b : Int) = BitVec.ofNat 64 b := BitVec.ofInt_natCast ..
  have tA : (BitVec.ofNat 64 a).toNat = a := by rw [BitVec.toNat_ofNat]; omega
  have tB : (BitVec.ofNat 64 b).toNat = b := by rw [BitVec.toNat_ofNat]; omega
  have key : ∀ v : BitVec 64, IntKind.u64.wrap ((v.toNat : Nat) : Int) = ((v.toNat : Nat) : Int) := by
    intro v
    rw [wrap_u64]
    have := v.isLt
    omega
  refine ⟨?_, ?_, ?_, ?_⟩
  · show IntKind.u64.wrap (((BitVec.ofInt 64 (a : Int) ^^^ BitVec.ofInt 64 (b : Int)).toNat : Nat) : Int) = _
    rw [key, hA, hB, BitVec.toNat_xor, tA, tB]
  · show IntKind.u64.wrap (((BitVec.ofInt 64 (a : Int) ||| BitVec.ofInt 64 (b : Int)).toNat : Nat) : Int) = _
    rw [key, hA, hB, BitVec.toNat_or, tA, tB]
  · show IntKind.u64.wrap (((BitVec.ofInt 64 (a : Int) &&& BitVec.ofInt 64 (b : Int)).toNat : Nat) : Int) = _
    rw [key, hA, hB, BitVec.toNat_and, tA, tB]
  · show IntKind.u64.wrap (((BitVec.ofInt 64 (a : Int) &&& ~~~ BitVec.ofInt 64 (b : Int)).toNat : Nat) : Int) = _
    rw [key, hA, hB, BitVec.toNat_and, BitVec.toNat_not, tA, tB]

theorem xor_half {a : Nat} (h : a < half) : a ^^^ half = a + half := by
  have e : half = 2 ^ 63 := by decide
  rw [e] at h ⊢
  have h1 : a ^^^ 2 ^ 63 = a ||| 2 ^ 63 := by
    apply Nat.eq_of_testBit_eq
    intro i
    rw [Nat.testBit_xor, Nat.testBit_or, Nat.testBit_two_pow]
    by_cases hi : 63 = i
    · subst hi
      rw [Nat.testBit_lt_two_pow h]
      rfl
    · simp [hi]
  have h2 := Nat.two_pow_add_eq_or_of_lt (i := 63) h 1
  rw [Nat.mul_one] at h2
  rw [h1, Nat.or_comm, ← h2, Nat.add_comm]

theorem xor_all {a : Nat} (h : a < 18446744073709551616) : a ^^^ 18446744073709551615 = 18446744073709551615 - a := by
  have h1 : (BitVec.ofNat 64 a ^^^ BitVec.allOnes 64).toNat = (~~~ BitVec.ofNat 64 a).toNat := by rw [BitVec.xor_allOnes]
  rw [BitVec.toNat_xor, BitVec.toNat_not, BitVec.toNat_ofNat] at h1
  rw [show a % 2 ^ 64 = a from by omega] at h1
  simpa using h1

def rank (b : Nat) : Nat := if b < half then b + half else 18446744073709551615 - b

theorem rank_form (b : Nat) (hb : b < 18446744073709551616) :
    bits .xor .u64 (b : Int) (bits .or .u64 (IntKind.u64.wrap (wrap64 (b : Int) / 9223372036854775808)) 9223372036854775808) = (rank b : Int) := by
  have eh : half = 9223372036854775808 := rfl
  unfold rank
  by_cases h : b < half
  · rw [if_pos h]
    have e1 : IntKind.u64.wrap (wrap64 (b : Int) / 9223372036854775808) = ((0 : Nat) : Int) := by
      rw [wrap_u64]; unfold wrap64; omega
    rw [e1, show (9223372036854775808 : Int) = ((half : Nat) : Int) from rfl, (bits64 0 half (by omega) (by decide)).2.1, Nat.zero_or,
      (bits64 b half hb (by decide)).1, xor_half h]
  · rw [if_neg h]
    have e1 : IntKind.u64.wrap (wrap64 (b : Int) / 9223372036854775808) = ((18446744073709551615 : Nat) : Int) := by
      rw [wrap_u64]; unfold wrap64; omega
    rw [e1, show (9223372036854775808 : Int) = ((half : Nat) : Int) from rfl, (bits64 18446744073709551615 half (by decide) (by decide)).2.1,
      show 18446744073709551615 ||| half = 18446744073709551615 from by decide, (bits64 b _ hb (by decide)).1, xor_all hb]

theorem rank_any (b : Nat) (hb : Hid (b < 18446744073709551616)) (w : World) :
    Calls Try.prog 15 #[.float .f64 b] w fun e w' => e = .returned (.int .u64 (rank b : Int)) ∧ w = w' := by
  have h22 := bits_run
  have HF := Lib.hid (rank_form b hb.out)
  go_enter Try.func15, Try.ntmps15
  go_wp2
  go_ret
  exact ⟨ret_int HF.out, rfl⟩

theorem less_any (a b : Nat) (ha : Hid (a < 18446744073709551616)) (hb : Hid (b < 18446744073709551616)) (w : World) :
    Calls Try.prog 17 #[.float .f64 a, .float .f64 b] w fun e w' => e = .returned (.bool (decide (rank a < rank b))) ∧ w = w' := by
  go_enter Try.func17, Try.ntmps17
  go_wp2_with fail
  refine (rank_any a ha _).mono ?_
  rintro e w1 ⟨rfl, rfl⟩
  go_wp2_with fail
  refine (rank_any b hb _).mono ?_
  rintro e w1 ⟨rfl, rfl⟩
  go_wp2
  go_ret
  exact ⟨rfl, rfl⟩

theorem andNot_form (b : Nat) (hb : b < 18446744073709551616) : (bits .andNot .u64 (b : Int) 9223372036854775808).toNat = rung b := by
  rw [show (9223372036854775808 : Int) = ((half : Nat) : Int) from rfl, (bits64 b half hb (by decide)).2.2.2, Int.toNat_natCast,
    show 18446744073709551615 - half = 2 ^ 63 - 1 from by decide, Nat.and_two_pow_sub_one_eq_mod]
  rfl

theorem abs_any (b : Nat) (hb : Hid (b < 18446744073709551616)) (w : World) :
    Calls Try.prog 29 #[.float .f64 b] w fun e w' => e = .returned (.float .f64 (rung b)) ∧ w = w' := by
  have h22 := bits_run
  have h23 := from_run
  have HF := Lib.hid (andNot_form b hb.out)
  go_enter Try.func29, Try.ntmps29
  go_wp2
  go_ret
  exact ⟨ret_float HF.out, rfl⟩

/-- Whether a word is no number, is without end, is below 0 by its sign: in the walk's words. -/
def isNaNB (b : Nat) : Bool := FloatKind.f64.format.order b b != some Ordering.eq
def isInfB (b : Nat) : Bool := FloatKind.f64.format.order (rung b) 9218868437227405311 == some Ordering.gt
def sbit (b : Nat) : Bool := decide (wrap64 (b : Int) < 0)

theorem isinf_any (b : Nat) (hb : Hid (b < 18446744073709551616)) (w : World) :
    Calls Try.prog 27 #[.float .f64 b, .int .i64 0] w fun e w' => e = .returned (.bool (isInfB b)) ∧ w = w' := by
  go_enter Try.func27, Try.ntmps27
  go_wp2_with fail
  refine (abs_any b hb _).mono ?_
  rintro e w1 ⟨rfl, rfl⟩
  go_wp2
  go_ret
  exact ⟨rfl, rfl⟩

theorem isnan_any (b : Nat) (w : World) :
    Calls Try.prog 26 #[.float .f64 b] w fun e w' => e = .returned (.bool (isNaNB b)) ∧ w = w' := by
  go_enter Try.func26, Try.ntmps26
  go_wp2
  go_ret
  exact ⟨rfl, rfl⟩

theorem signbit_any (b : Nat) (w : World) :
    Calls Try.prog 28 #[.float .f64 b] w fun e w' => e = .returned (.bool (sbit b)) ∧ w = w' := by
  have h22 := bits_run
  go_enter Try.func28, Try.ntmps28
  go_wp2
  go_ret
  exact ⟨rfl, rfl⟩

/-- How two words stand, as the walk asks it. -/
theorem ord (x y : Nat) (hx : x < 18446744073709551616) (hy : y < 18446744073709551616) :
    FloatKind.f64.format.order x y = if nan x = true ∨ nan y = true then none else some (if sv x < sv y then .lt else if sv x = sv y then .eq else .gt) := by
  rw [show FloatKind.f64.format = Ieee.double from rfl, Fl.order_eq x y hx hy]
  simp only [Fl.cmp_eq]

theorem ordB (x y : Nat) (hx : x < 18446744073709551616) (hy : y < 18446744073709551616) :
    (FloatKind.f64.format.order x y == some Ordering.gt) = (!nan x && !nan y && decide (sv y < sv x)) ∧
    (FloatKind.f64.format.order x y == some Ordering.lt) = (!nan x && !nan y && decide (sv x < sv y)) ∧
    (FloatKind.f64.format.order x y == some Ordering.eq) = (!nan x && !nan y && decide (sv x = sv y)) ∧
    (FloatKind.f64.format.order x y != some Ordering.eq) = !(!nan x && !nan y && decide (sv x = sv y)) := by
  rw [ord x y hx hy]
  cases nan x <;> cases nan y <;> simp
  by_cases h1 : sv x < sv y
  · simp [h1, show ¬ sv y < sv x from by omega, show sv x ≠ sv y from by omega]
  · by_cases h2 : sv x = sv y
    · simp [h2]
    · simp [h1, h2, show sv y < sv x from by omega]

theorem eh : half = 9223372036854775808 := rfl
theorem einf : inf = 9218868437227405312 := rfl
theorem rung_lt (b : Nat) : rung b < half := Nat.mod_lt _ (by decide)
theorem sv_nat (b : Nat) : sv b = if half ≤ b then -(rung b : Int) else (rung b : Int) := rfl
theorem nan_zero : nan 0 = false := by decide
theorem sv_zero : sv 0 = 0 := by decide

theorem facts (b : Nat) (hb : b < 18446744073709551616) : isNaNB b = nan b ∧ sbit b = decide (half ≤ b) ∧
    (nan b = false → isInfB b = decide (rung b = inf) ∧ (FloatKind.f64.format.order b 0 == some Ordering.gt) = decide (¬ half ≤ b ∧ rung b ≠ 0) ∧
      (FloatKind.f64.format.order b 0 == some Ordering.lt) = decide (half ≤ b ∧ rung b ≠ 0)) := by
  have hr := rung_lt b
  have hh := eh
  refine ⟨?_, ?_, fun hn => ⟨?_, ?_, ?_⟩⟩
  · unfold isNaNB
    rw [(ordB b b hb hb).2.2.2]
    cases nan b <;> simp
  · unfold sbit wrap64
    by_cases h : half ≤ b
    · simp [h]; omega
    · simp [h]; omega
  · have hrr : rung b ≤ inf := by
      have := hn
      unfold nan at this
      simpa using this
    unfold isInfB
    have e1 : rung (rung b) = rung b := Nat.mod_eq_of_lt hr
    have h1 : nan (rung b) = false := by unfold nan; rw [e1]; simpa using hrr
    have h2 : nan 9218868437227405311 = false := by decide
    rw [(ordB (rung b) 9218868437227405311 (by omega) (by decide)).1, h1, h2]
    have e2 : sv (rung b) = (rung b : Int) := by rw [sv_nat, if_neg (by omega), e1]
    have e3 : sv 9218868437227405311 = 9218868437227405311 := by decide
    rw [e2, e3]
    have := einf
    by_cases h3 : rung b = inf
    · simp [h3, this]
    · simp [h3]; omega
  · rw [(ordB b 0 hb (by decide)).1, hn, nan_zero, sv_zero, sv_nat]
    by_cases h : half ≤ b
    · rw [if_pos h]
      simp [h]
    · rw [if_neg h]
      by_cases hz : rung b = 0
      · simp [hz]
      · simp [h, hz]; omega
  · rw [(ordB b 0 hb (by decide)).2.1, hn, nan_zero, sv_zero, sv_nat]
    by_cases h : half ≤ b
    · rw [if_pos h]
      by_cases hz : rung b = 0
      · simp [hz]
      · simp [h, hz]; omega
    · rw [if_neg h]
      simp [h]

/-- What a number is. -/
def cls (b : Nat) : Nat := if nan b then 1 else if half ≤ b then (if rung b = inf then 2 else if rung b = 0 then 4 else 3) else (if rung b = inf then 7 else if rung b = 0 then 5 else 6)

/-- Of one kind of number: the kind, and what is asked of it. -/
def Kind (b : Nat) (c : Int) (n i g l t : Bool) : Prop :=
  (cls b : Int) = c ∧ isNaNB b = n ∧ isInfB b = i ∧ (FloatKind.f64.format.order b 0 == some Ordering.gt) = g ∧ (FloatKind.f64.format.order b 0 == some Ordering.lt) = l ∧ sbit b = t

theorem kinds (b : Nat) (hb : b < 18446744073709551616) :
    ((cls b : Int) = 1 ∧ isNaNB b = true) ∨ Kind b 2 false true false true true ∨ Kind b 3 false false false true true ∨ Kind b 4 false false false false true ∨
    Kind b 5 false false false false false ∨ Kind b 6 false false true false false ∨ Kind b 7 false true true false false := by
  obtain ⟨f1, f2, f3⟩ := facts b hb
  by_cases hn : nan b = true
  · exact .inl ⟨by simp [cls, hn], by rw [f1, hn]⟩
  have hn : nan b = false := by simpa using hn
  obtain ⟨f3, f4, f5⟩ := f3 hn
  have h0 : ¬ (0 : Nat) = inf := by decide
  have h1 : ¬ inf = 0 := by decide
  by_cases hs : half ≤ b
  · by_cases hi : rung b = inf
    · exact .inr (.inl ⟨by simp [cls, hn, hs, hi], by rw [f1, hn], by rw [f3]; simp [hi], by rw [f4]; simp [hs], by rw [f5]; simp [hs, hi, h1], by rw [f2]; simp [hs]⟩)
    · by_cases hz : rung b = 0
      · exact .inr (.inr (.inr (.inl ⟨by simp [cls, hn, hs, hz, h0], by rw [f1, hn], by rw [f3]; simp [hi], by rw [f4]; simp [hs], by rw [f5]; simp [hz], by rw [f2]; simp [hs]⟩)))
      · exact .inr (.inr (.inl ⟨by simp [cls, hn, hs, hz, hi], by rw [f1, hn], by rw [f3]; simp [hi], by rw [f4]; simp [hs], by rw [f5]; simp [hs, hz], by rw [f2]; simp [hs]⟩))
  · by_cases hi : rung b = inf
    · exact .inr (.inr (.inr (.inr (.inr (.inr ⟨by simp [cls, hn, hs, hi], by rw [f1, hn], by rw [f3]; simp [hi], by rw [f4]; simp [hs, hi, h1], by rw [f5]; simp [hs], by rw [f2]; simp [hs]⟩)))))
    · by_cases hz : rung b = 0
      · exact .inr (.inr (.inr (.inr (.inl ⟨by simp [cls, hn, hs, hz, h0], by rw [f1, hn], by rw [f3]; simp [hi], by rw [f4]; simp [hz], by rw [f5]; simp [hs], by rw [f2]; simp [hs]⟩))))
      · exact .inr (.inr (.inr (.inr (.inr (.inl ⟨by simp [cls, hn, hs, hz, hi], by rw [f1, hn], by rw [f3]; simp [hi], by rw [f4]; simp [hs, hz], by rw [f5]; simp [hs], by rw [f2]; simp [hs]⟩)))))

theorem class_any (b : Nat) (hb : Hid (b < 18446744073709551616)) (w : World) :
    Calls Try.prog 13 #[.float .f64 b] w fun e w' => e = .returned (.int .i64 (cls b : Int)) ∧ w = w' := by
  rcases kinds b hb.out with ⟨hc, f1⟩ | ⟨hc, f1, f2, f3, f4, f5⟩ | ⟨hc, f1, f2, f3, f4, f5⟩ | ⟨hc, f1, f2, f3, f4, f5⟩ | ⟨hc, f1, f2, f3, f4, f5⟩ | ⟨hc, f1, f2, f3, f4, f5⟩ | ⟨hc, f1, f2, f3, f4, f5⟩
  all_goals
    have HC := Lib.hid hc
    clear hc
    go_enter Try.func13, Try.ntmps13
    go_wp2_with (first
      | (go_at_call 26; refine (isnan_any b _).mono ?_; rintro e w' ⟨rfl, rfl⟩)
      | (go_at_call 27; refine (isinf_any b hb _).mono ?_; rintro e w' ⟨rfl, rfl⟩)
      | (go_at_call 28; refine (signbit_any b _).mono ?_; rintro e w' ⟨rfl, rfl⟩))
    first | go_ret | (rw [Exit.noGoto_ret]; go_ret)
    exact ⟨ret_int HC.out.symm, rfl⟩

theorem zeros8 (w : World) : (zeroValue 40).run Try.prog w = .ok (.agg (Array.replicate 8 (.int .u8 0))) w := by kernel_rfl

/-- A key's bytes. -/
def keyInts (n : Nat) : List Int := (List.range 8).map fun i => ((n / 2 ^ (8 * (7 - i)) % 256 : Nat) : Int)
def keyCells (n k : Nat) : Array Value := ((List.range 8).map fun i => if i < k then .int .u8 ((n / 2 ^ (8 * (7 - i)) % 256 : Nat) : Int) else .int .u8 0).toArray
theorem keyCells_get (n k i : Nat) (h : i < 8) : (keyCells n k)[i]? = some (if i < k then .int .u8 ((n / 2 ^ (8 * (7 - i)) % 256 : Nat) : Int) else .int .u8 0) := by
  simp [keyCells, h]
theorem keyCells_size (n k : Nat) : (keyCells n k).size = 8 := by simp [keyCells]
theorem keyCells_set (n k : Nat) (_h : k < 8) : (keyCells n k).setIfInBounds k (.int .u8 ((n / 2 ^ (8 * (7 - k)) % 256 : Nat) : Int)) = keyCells n (k + 1) := by
  apply Array.ext_getElem?
  intro i
  rw [Array.getElem?_setIfInBounds]
  by_cases hi : i < 8
  · rw [keyCells_get _ _ _ hi, keyCells_get _ _ _ hi, keyCells_size]
    by_cases he : k = i
    · subst he; simp [hi]
    · rw [if_neg he]
      by_cases h1 : i < k
      · simp [h1, show i < k + 1 from by omega]
      · simp [h1, show ¬ i < k + 1 from by omega]
  · rw [Array.getElem?_eq_none (by rw [keyCells_size]; omega), Array.getElem?_eq_none (by rw [keyCells_size]; omega)]
    rw [keyCells_size]
    by_cases he : k = i
    · omega
    · rw [if_neg he]
theorem keyCells_zero (n : Nat) : keyCells n 0 = Array.replicate 8 (.int .u8 0) := by
  simp [keyCells, List.range_succ]
  rfl

/-- A key's bytes, as a list of bytes. -/
def kb (n i : Nat) : UInt8 := UInt8.ofNat (n / 2 ^ (8 * (7 - i)) % 256)
def keyList (n : Nat) : List UInt8 := (List.range 8).map (kb n)
def keyStr (n : Nat) : ByteArray := ⟨(keyList n).toArray⟩

theorem foldl_push (l : List Int) (a : Array UInt8) : l.foldl (fun r x => r.push (UInt8.ofNat x.toNat)) (⟨a⟩ : ByteArray) = ⟨a ++ (l.map fun x => UInt8.ofNat x.toNat).toArray⟩ := by
  induction l generalizing a with
  | nil => simp
  | cons x l ih =>
    rw [List.foldl_cons]
    show List.foldl _ (⟨a.push (UInt8.ofNat x.toNat)⟩ : ByteArray) l = _
    rw [ih]
    simp

theorem keyStr_fold (n : Nat) : (keyInts n).foldl (fun r x => r.push (UInt8.ofNat x.toNat)) ByteArray.empty = keyStr n := by
  show List.foldl _ (⟨#[]⟩ : ByteArray) _ = _
  rw [foldl_push]
  unfold keyStr keyList keyInts
  rw [List.map_map]
  have : List.map ((fun x : Int => UInt8.ofNat x.toNat) ∘ fun i => ((n / 2 ^ (8 * (7 - i)) % 256 : Nat) : Int)) (List.range 8) = List.map (kb n) (List.range 8) := List.map_congr_left (fun i _ => rfl)
  rw [this]
  simp

theorem key_conv (w : World) (g n : Nat) (h : w.heap[g]? = some (.cells (keyCells n 8) 40 (0, 0))) :
    (convert 32 9 (.slice (some ⟨g, 0, none⟩) 8 8)).run Try.prog w = .ok (.string (keyStr n)) w := by
  rw [run_convert_bytes_string w 32 9 5 _ 8 8 (by kernel_rfl) (by kernel_rfl) (by kernel_rfl)]
  rw [run_bytesToString w _ 8 8 (keyInts n) ?_, keyStr_fold]
  have := run_loadCells_list (P := Try.prog) w ⟨g, 0, none⟩ ((keyInts n).map (Value.int .u8)) (fun j v hv => by
    have hadd : (⟨g, 0, none⟩ : Addr).add j = ⟨g, j, none⟩ := by unfold Addr.add; split <;> simp_all
    have hj : j < 8 := by
      rcases Nat.lt_or_ge j 8 with h' | h'
      · exact h'
      · rw [List.getElem?_eq_none (by simp [keyInts]; omega)] at hv; cases hv
    rw [hadd, cell_of_row _ _ _ _ _ _ h, keyCells_get _ _ _ hj, if_pos hj, ← hv]
    simp [keyInts, hj])
  have hl : ((keyInts n).map (Value.int .u8)).length = 8 := by simp [keyInts]
  rw [hl] at this
  exact this

theorem key_any (b : Nat) (hb : Hid (b < 18446744073709551616)) (w : World) :
    Calls Try.prog 19 #[.float .f64 b] w fun e w' => e = .returned (.string (keyStr (rank b))) ∧ Below w.heap.size w w' := by
  go_enter Try.func19, Try.ntmps19
  go_wp2_with fail
  refine (rank_any b hb _).mono ?_
  rintro e w1 ⟨rfl, rfl⟩
  have hz := zeros8
  go_wp2_with fail
  go_loopw [5, 8] (fun _ i wr => ∃ k : Nat, k ≤ 8 ∧ i = .int .i64 k ∧ Hid (wr.heap[w.heap.size]? = some (.cells (keyCells (rank b) k) 40 (0, 0))) ∧ Below w.heap.size w wr) (fun _ i _ => 8 - (intOf i).toNat)
  case atStart => exact ⟨0, by omega, rfl, Lib.hid (by rw [keyCells_zero]; exact heap_alloc_new _ _), (Below.refl _ _).alloc (Nat.le_refl _) _⟩
  case round =>
    obtain ⟨k, hk, rfl, HB, hB⟩ := hrel
    clear hz
    by_cases hlt : k < 8
    · have hcell : wr.cell? ⟨w.heap.size, k, none⟩ = some (.int .u8 0) := by
        rw [cell_of_row _ _ _ _ _ _ HB.out, keyCells_get _ _ _ hlt, if_neg (by omega)]
      have hfr : wr.frozen? ⟨w.heap.size, k, none⟩ = false := frozen_of_row _ _ _ _ _ HB.out
      go_wp2_with fail
      refine ⟨⟨k + 1, by omega, by go_num, Lib.hid ?_, hB.setCell (Nat.le_refl _) _⟩, by simp [intOf]; omega⟩
      rw [heap_setCell_same _ _ _ _ _ _ HB.out]
      exact congrArg (fun x => some (Obj.cells x 40 (0, 0))) (keyCells_set (rank b) k hlt)
    · obtain rfl : k = 8 := by omega
      have hcv := key_conv wr _ (rank b) HB.out
      go_wp2_with fail
      go_ret
      exact ⟨rfl, hB⟩

/-- A text's bytes as a number. -/
def valN (s : ByteArray) (k : Nat) : Nat := (s.data.toList.take k).foldl (fun r c => r * 256 + c.toNat) 0
theorem take_snoc (s : ByteArray) (k : Nat) (h : k < s.size) : s.data.toList.take (k + 1) = s.data.toList.take k ++ [s[k]] := by
  rw [List.take_succ_eq_append_getElem (by simpa using h)]; rfl
theorem valN_succ (s : ByteArray) (k : Nat) (h : k < s.size) : valN s (k + 1) = valN s k * 256 + s[k].toNat := by
  unfold valN
  rw [take_snoc s k h, List.foldl_append]
  rfl
theorem valN_lt (s : ByteArray) (k : Nat) (h : k ≤ s.size) : valN s k < 256 ^ k := by
  induction k with
  | zero => simp [valN]
  | succ k ih =>
    rw [valN_succ s k (by omega), Nat.pow_succ]
    have h1 := ih (by omega)
    have h2 := s[k].toNat_lt
    omega

theorem or_low (n c : Nat) (hn : n < 72057594037927936) (hc : c < 256) : bits .or .u64 (IntKind.u64.wrap ((n : Int) * 256)) (IntKind.u64.wrap (c : Int)) = ((n * 256 + c : Nat) : Int) := by
  rw [wrap_u64, wrap_u64]
  rw [show ((n : Int) * 256) % 18446744073709551616 = ((n * 256 : Nat) : Int) from by omega, show (c : Int) % 18446744073709551616 = ((c : Nat) : Int) from by omega]
  rw [(bits64 (n * 256) c (by omega) (by omega)).2.1]
  have := Nat.two_pow_add_eq_or_of_lt (i := 8) (b := c) hc n
  rw [show n * 256 = 2 ^ 8 * n from by omega, ← this]

def unrank (n : Nat) : Nat := if half ≤ n then n - half else 18446744073709551615 - n

theorem ofInt_wrap (n : Nat) : BitVec.ofInt 64 (wrap64 (n : Int)) = BitVec.ofNat 64 n := by
  apply BitVec.eq_of_toNat_eq
  rw [BitVec.toNat_ofInt, BitVec.toNat_ofNat]
  unfold wrap64
  show ((((n : Int) + 9223372036854775808) % 18446744073709551616 - 9223372036854775808) % 18446744073709551616).toNat = n % 18446744073709551616
  omega

theorem not_form (n : Nat) (h : n < 18446744073709551616) : bits .xor .i64 (-1) (wrap64 (n : Int)) = -1 - wrap64 (n : Int) := by
  have h0 : bits .xor .i64 (-1) (wrap64 (n : Int)) = IntKind.i64.wrap (((BitVec.ofInt 64 (-1) ^^^ BitVec.ofInt 64 (wrap64 (n : Int))).toNat : Nat) : Int) := rfl
  have h1 : ((BitVec.ofInt 64 (-1) ^^^ BitVec.ofInt 64 (wrap64 (n : Int))).toNat : Nat) = 18446744073709551615 - n := by
    rw [show BitVec.ofInt 64 (-1) = BitVec.allOnes 64 from rfl, ofInt_wrap, BitVec.allOnes_xor, BitVec.toNat_not, BitVec.toNat_ofNat]
    show 18446744073709551616 - 1 - n % 18446744073709551616 = _
    omega
  rw [h0, h1, IntKind.wrap_i64]
  unfold wrap64
  omega

theorem back_form (n : Nat) (hb : n < 18446744073709551616) :
    (bits .xor .u64 (n : Int) (bits .or .u64 (IntKind.u64.wrap (bits .xor .i64 (-1) (wrap64 (n : Int)) / 9223372036854775808)) 9223372036854775808)).toNat = unrank n := by
  rw [not_form n hb]
  have eh : half = 9223372036854775808 := rfl
  unfold unrank
  by_cases h : half ≤ n
  · rw [if_pos h]
    have e1 : IntKind.u64.wrap ((-1 - wrap64 (n : Int)) / 9223372036854775808) = ((0 : Nat) : Int) := by
      rw [wrap_u64]; unfold wrap64; omega
    rw [e1, show (9223372036854775808 : Int) = ((half : Nat) : Int) from rfl, (bits64 0 half (by omega) (by decide)).2.1, Nat.zero_or,
      (bits64 n half hb (by decide)).1, Int.toNat_natCast]
    have := xor_half (a := n - half) (by omega)
    rw [Nat.sub_add_cancel h] at this
    have h2 : n ^^^ half = (n - half ^^^ half) ^^^ half := by rw [this]
    rw [h2, Nat.xor_assoc, Nat.xor_self, Nat.xor_zero]
  · rw [if_neg h]
    have e1 : IntKind.u64.wrap ((-1 - wrap64 (n : Int)) / 9223372036854775808) = ((18446744073709551615 : Nat) : Int) := by
      rw [wrap_u64]; unfold wrap64; omega
    rw [e1, show (9223372036854775808 : Int) = ((half : Nat) : Int) from rfl, (bits64 18446744073709551615 half (by decide) (by decide)).2.1,
      show 18446744073709551615 ||| half = 18446744073709551615 from by decide, (bits64 n _ hb (by decide)).1, xor_all hb, Int.toNat_natCast]

theorem ret_back {a b : Nat} (h : a = b) : Ending.returned (.tuple #[.float .f64 a, .bool true]) = .returned (.tuple #[.float .f64 b, .bool true]) := by rw [h]

theorem back_any (s : ByteArray) (w : World) (hs : s.size = 8) :
    Calls Try.prog 11 #[.string s] w fun e w' => e = .returned (.tuple #[.float .f64 (unrank (valN s 8)), .bool true]) ∧ w = w' := by
  have h23 := from_run
  go_enter Try.func11, Try.ntmps11
  go_wp2
  go_loop [4, 9] (fun v i => ∃ k n : Nat, k ≤ 8 ∧ i = .int .i64 k ∧ v = .int .u64 (n : Int) ∧ Hid (n = valN s k)) (fun _ i => 8 - (intOf i).toNat)
  case atStart => exact ⟨0, 0, by omega, rfl, rfl, Lib.hid rfl⟩
  case round =>
    obtain ⟨k, n, hk, rfl, rfl, HN⟩ := hrel
    by_cases hlt : k < 8
    · have hks : k < s.size := by omega
      have HF := Lib.hid (show bits .or .u64 (IntKind.u64.wrap ((n : Int) * 256)) (IntKind.u64.wrap (s[k].toNat : Int)) = ((valN s (k + 1) : Nat) : Int) from by
        have h1 := valN_lt s k (by omega)
        have h2 : 256 ^ k ≤ 256 ^ 7 := Nat.pow_le_pow_right (by decide) (by omega)
        rw [or_low n _ (by rw [HN.out]; omega) s[k].toNat_lt, valN_succ s k hks, HN.out])
      clear hs
      go_wp2
      refine ⟨⟨k + 1, _, by omega, by go_num, congrArg _ HF.out, Lib.hid rfl⟩, by simp [intOf]; omega⟩
    · obtain rfl : k = 8 := by omega
      have HF := Lib.hid (back_form n (by rw [HN.out]; have := valN_lt s 8 (by omega); omega))
      go_wp2
      go_ret2
      exact ⟨ret_back (by rw [HF.out, HN.out]), rfl⟩

theorem back_no (s : ByteArray) (w : World) (hs : ¬ s.size = 8) :
    Calls Try.prog 11 #[.string s] w fun e w' => e = .returned (.tuple #[.float .f64 0, .bool false]) ∧ w = w' := by
  have h1 : ((s.size : Int) != 8) = true := by rw [bne_iff_ne]; omega
  clear hs
  go_enter Try.func11, Try.ntmps11
  go_wp2
  go_ret2
  exact ⟨rfl, rfl⟩
end Go.Proofs.Ytmfcbjjjehbpkaa
