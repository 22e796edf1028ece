/- The walks of the sum functions: what each computes, over plain 32-bit checks; and the walks of the laws that need no reference. -/
import Derived.Test.YtggbmcmajdbkhaaProg
import Derived.Test.YtggbmcmajdbkhaaCrc
import Derived.WalkKit
import Derived.Below
import Derived.Carry
import Derived.KernelRfl
import Derived.IntWalk
import Derived.Laws.Rows
import Derived.WalkLawsBesides

import Derived.Lib.Hide
import Derived.Deep.WholeRow
namespace Go.Proofs.Ytggbmcmajdbkhaa
open Go.RowKit
open Crc
set_option maxHeartbeats 400000
set_option maxRecDepth 100000

abbrev u32 (c : BitVec 32) : Value := .int .u32 (c.toNat : Int)

theorem bits_xor32 (a b : BitVec 32) : bits .xor .u32 (a.toNat : Int) (b.toNat : Int) = ((a ^^^ b).toNat : Int) := by
  show IntKind.u32.wrap _ = _
  rw [IntKind.wrap_u32]
  show ((((BitVec.ofInt 32 (a.toNat : Int)) ^^^ (BitVec.ofInt 32 (b.toNat : Int))).toNat : Int)) % 4294967296 = _
  rw [BitVec.ofInt_natCast, BitVec.ofInt_natCast]
  simp only [BitVec.ofNat_toNat, BitVec.setWidth_eq]
  have := (a ^^^ b).isLt
  omega

theorem idx_eq (c : BitVec 32) (b : Nat) : bits .xor .u8 ((c.toNat : Int) % 256) (b : Int) = ((((c ^^^ BitVec.ofNat 32 b) &&& 255#32).toNat : Nat) : Int) := by
  show IntKind.u8.wrap _ = _
  rw [IntKind.wrap_u8]
  show ((((BitVec.ofInt 8 ((c.toNat : Int) % 256)) ^^^ (BitVec.ofInt 8 (b : Int))).toNat : Int)) % 256 = _
  have e : ((c.toNat : Int) % 256) = ((c.toNat % 256 : Nat) : Int) := by omega
  rw [e, BitVec.ofInt_natCast, BitVec.ofInt_natCast]
  have h : ((BitVec.ofNat 8 (c.toNat % 256)) ^^^ (BitVec.ofNat 8 b)).toNat = ((c ^^^ BitVec.ofNat 32 b) &&& 255#32).toNat := by
    rw [BitVec.toNat_xor, BitVec.toNat_and, BitVec.toNat_xor, BitVec.toNat_ofNat, BitVec.toNat_ofNat, BitVec.toNat_ofNat]
    rw [show (255#32).toNat = 2 ^ 8 - 1 from rfl, Nat.and_two_pow_sub_one_eq_mod, Nat.xor_mod_two_pow]
    simp only [Nat.reducePow, Nat.mod_mod]
    rw [show b % 4294967296 % 256 = b % 256 from by omega]
  rw [h]
  have : ((c ^^^ BitVec.ofNat 32 b) &&& 255#32).toNat < 256 := by
    rw [BitVec.toNat_and, show (255#32).toNat = 2 ^ 8 - 1 from rfl, Nat.and_two_pow_sub_one_eq_mod]
    exact Nat.mod_lt _ (by decide)
  omega

theorem idx_lt (c : BitVec 32) (b : Nat) : ((c ^^^ BitVec.ofNat 32 b) &&& 255#32).toNat < 256 := by
  rw [BitVec.toNat_and, show (255#32).toNat = 2 ^ 8 - 1 from rfl, Nat.and_two_pow_sub_one_eq_mod]
  exact Nat.mod_lt _ (by decide)

/-- Block g holds the table. -/
def HasTab (w : World) (g : Nat) : Prop := ∀ i, i < 256 → w.cell? ⟨g, i, none⟩ = some (u32 (tab i))

theorem ret_int {k : IntKind} {a b : Int} (h : a = b) : Ending.returned (.int k a) = .returned (.int k b) := by rw [h]

theorem shr8 (c : BitVec 32) : (c.toNat : Int) / (256 : Int) = ((c >>> 8).toNat : Int) := by
  rw [BitVec.toNat_ushiftRight, Nat.shiftRight_eq_div_pow]; omega

theorem with_any (g : Nat) (c : BitVec 32) (b : Int) (hb0 : 0 ≤ b) (hb1 : b < 256) (w : World) (hg : HasTab w g) :
    Calls Try.prog 18 #[.pointer (some ⟨g, 0, none⟩), u32 c, .int .u8 b] w fun e w' => e = .returned (u32 (byte c (BitVec.ofInt 32 b))) ∧ w = w' := by
  obtain ⟨b, rfl⟩ := Int.eq_ofNat_of_zero_le hb0
  have hbb : BitVec.ofInt 32 (b : Int) = BitVec.ofNat 32 b := by rw [BitVec.ofInt_natCast]
  rw [hbb]
  clear hbb
  have he := idx_eq c b
  have hl := idx_lt c b
  have hc := hg _ hl
  rw [show ((c ^^^ BitVec.ofNat 32 b) &&& 255#32).toNat = (bits .xor .u8 ((c.toNat : Int) % 256) (b : Int)).toNat from by rw [he]; rfl] at hc
  have h0 : 0 ≤ bits .xor .u8 ((c.toNat : Int) % 256) (b : Int) := by omega
  have h1 : bits .xor .u8 ((c.toNat : Int) % 256) (b : Int) < 256 := by omega
  have hfin : bits .xor .u32 ((c.toNat : Int) / 256) ((tab (bits .xor .u8 ((c.toNat : Int) % 256) (b : Int)).toNat).toNat : Int) = ((byte c (BitVec.ofNat 32 b)).toNat : Int) := by
    rw [he, Int.toNat_natCast, shr8, bits_xor32, byte_tab]
    rw [BitVec.toNat_ofNat]; omega
  have HF := Lib.hid hfin
  clear hfin he hg
  go_enter Try.func18, Try.ntmps18
  go_wp2
  go_ret
  exact ⟨ret_int HF.out, rfl⟩

/-- The table's cells, of which so many are laid. -/
def tabCells (k : Nat) : Array Value := ((List.range 256).map fun i => if i < k then u32 (tab i) else .int .u32 0).toArray
theorem tabCells_size (k : Nat) : (tabCells k).size = 256 := by simp [tabCells]
theorem tabCells_get (k i : Nat) (h : i < 256) : (tabCells k)[i]? = some (if i < k then u32 (tab i) else .int .u32 0) := by
  simp [tabCells, h]
theorem tabCells_set (k : Nat) (_h : k < 256) : (tabCells k).setIfInBounds k (u32 (tab k)) = tabCells (k + 1) := by
  apply Array.ext_getElem?
  intro i
  rw [Array.getElem?_setIfInBounds]
  by_cases hi : i < 256
  · rw [tabCells_get _ _ hi, tabCells_get _ _ hi, tabCells_size]
    by_cases he : k = i
    · subst he; simp [hi]
    · rw [if_neg he]
      by_cases h1 : i < k
      · simp [h1, show i < k + 1 from by omega]
      · simp [h1, show ¬ i < k + 1 from by omega]
  · rw [Array.getElem?_eq_none (by rw [tabCells_size]; omega), Array.getElem?_eq_none (by rw [tabCells_size]; omega)]
    rw [tabCells_size]
    by_cases he : k = i
    · omega
    · rw [if_neg he]

theorem zeros_run (w : World) : (zeroValue 36).run Try.prog w = .ok (.agg (tabCells 0)) w := by kernel_rfl

theorem bits_and32 (a b : BitVec 32) : bits .and .u32 (a.toNat : Int) (b.toNat : Int) = ((a &&& b).toNat : Int) := by
  show IntKind.u32.wrap _ = _
  rw [IntKind.wrap_u32]
  show ((((BitVec.ofInt 32 (a.toNat : Int)) &&& (BitVec.ofInt 32 (b.toNat : Int))).toNat : Int)) % 4294967296 = _
  rw [BitVec.ofInt_natCast, BitVec.ofInt_natCast]
  simp only [BitVec.ofNat_toNat, BitVec.setWidth_eq]
  have := (a &&& b).isLt
  omega

theorem step_form (c : BitVec 32) :
    bits .xor .u32 ((c.toNat : Int) / (2 : Int)) (bits .and .u32 3988292384 ((-bits .and .u32 (c.toNat : Int) 1) % 4294967296)) = ((Crc.step c).toNat : Int) := by
  have h1 : bits .and .u32 (c.toNat : Int) 1 = (((c &&& 1#32).toNat : Nat) : Int) := bits_and32 c 1#32
  have h2 : ((-(((c &&& 1#32).toNat : Nat) : Int)) % (4294967296 : Int)) = (((-(c &&& 1#32)).toNat : Nat) : Int) := by
    rw [BitVec.toNat_neg]
    have := (c &&& 1#32).isLt
    omega
  have h3 : ((c.toNat : Int) / (2 : Int)) = ((c >>> 1).toNat : Int) := by
    rw [BitVec.toNat_ushiftRight, Nat.shiftRight_eq_div_pow]; omega
  have h4 : (3988292384 : Int) = ((poly).toNat : Int) := rfl
  rw [h1, h2, h3, h4, bits_and32, bits_xor32]
  rfl

theorem setRow_same (w : World) (g : Nat) (cs : Array Value) (t : TypeId) (h : w.heap[g]? = some (.cells cs t (0, 0))) : w.setRow g cs = w := by
  unfold World.setRow
  congr 1
  apply Array.ext_getElem?
  intro i
  rw [Array.getElem?_modify]
  split
  · rename_i e; subst e; rw [h]; rfl
  · rfl

theorem tabCells_one (k : Nat) : (tabCells k).all (·.oneCell') = true := by
  simp only [tabCells, List.all_toArray, List.all_map, List.all_eq_true]
  intro i _
  simp only [Function.comp]
  split <;> rfl

theorem table_any (w : World) :
    Calls Try.prog 16 #[] w fun e w' => e = .returned (.agg (tabCells 256)) ∧ Below w.heap.size w w' := by
  have hz := zeros_run
  go_enter Try.func16, Try.ntmps16
  go_wp2
  clear hz
  go_loopw [1, 2, 3] (fun _ _ i wr => ∃ k : Nat, k ≤ 256 ∧ i = .int .i64 k ∧ wr.heap[w.heap.size]? = some (.cells (tabCells k) 36 (0, 0)) ∧ Below w.heap.size w wr) (fun _ _ i _ => 256 - (intOf i).toNat)
  case atStart => exact ⟨0, by omega, rfl, heap_alloc_new _ _, (Below.refl _ _).alloc (Nat.le_refl _) _⟩
  case round =>
    obtain ⟨k, hk, rfl, hb, hB⟩ := hrel
    have HB := Lib.hid hb
    clear hb
    by_cases hlt : k < 256
    · go_wp2
      obtain ⟨wo, rfl⟩ : ∃ wo : World, wo = wr := ⟨_, rfl⟩
      have hcell : wo.cell? ⟨w.heap.size, k, none⟩ = some (.int .u32 0) := by
        rw [cell_of_row _ _ _ _ _ _ HB.out, tabCells_get _ _ hlt, if_neg (by omega)]
      have hfr : wo.frozen? ⟨w.heap.size, k, none⟩ = false := frozen_of_row _ _ _ _ _ HB.out
      go_loop [2, 8] (fun c j => ∃ n : Nat, n ≤ 8 ∧ j = .int .i64 n ∧ c = u32 (steps n (BitVec.ofNat 32 k))) (fun _ j => 8 - (intOf j).toNat)
      case atStart => exact ⟨0, by omega, rfl, by simp [steps, u32]; omega⟩
      case round =>
        obtain ⟨n, hn, rfl, rfl⟩ := hrel
        by_cases hlt8 : n < 8
        · go_wp2
          go_round
          case rel => exact ⟨n + 1, by omega, by go_num, by rw [steps_succ]; show Value.int _ _ = Value.int _ _; rw [← step_form]⟩
          case measure => simp [intOf]; omega
        · have hn8 : n = 8 := by omega
          go_wp2
          go_roundw
          case rel => exact ⟨k + 1, by omega, by go_num, by
            rw [heap_setCell_same _ _ _ _ _ _ HB.out]
            exact congrArg (fun x => some (Obj.cells x 36 (0, 0))) (tabCells_set k hlt), hB.setCell (Nat.le_refl _) _⟩
          case measure => simp [intOf]; omega
    · have hk : k = 256 := by omega
      have HB2 : Hid (wr.heap[w.heap.size]? = some (.cells (tabCells 256) 36 (0, 0))) := by
        have := HB.out
        rw [hk] at this
        exact this
      clear HB hk
      go_wp2_with (first
        | (refine wpList_load_row rfl 36 _ rfl w.heap.size rfl 36 (tabCells 256) (0, 0) _ HB2.out Try.underlying36 rfl (by kernel_rfl) ?_)
        | (refine wpList_store_row rfl 36 _ _ rfl w.heap.size (tabCells 256) rfl rfl 36 (tabCells 256) HB2.out (by kernel_rfl) rfl (tabCells_one 256) ?_; rw [setRow_same _ _ _ _ HB2.out]))
      exact bodyPost_ret_by (results_cell_row rfl _ _ _ _ _ _ _ rfl HB2.out Try.underlying36 rfl (by kernel_rfl)) rfl ⟨rfl, hB⟩

theorem piece_form (x : Int) (n : Nat) (hn : 1 ≤ n) : BitVec.ofInt 32 (IntKind.u64.wrap x / 2 ^ (8 * n - 8) % 256) = piece (BitVec.ofInt 64 x) (8 * (n - 1)) := by
  have h64 : IntKind.u64.wrap x = ((BitVec.ofInt 64 x).toNat : Int) := by
    rw [BitVec.toNat_ofInt]
    simp [IntKind.wrap, IntKind.bits, IntKind.signed]
    omega
  rw [h64, show 8 * (n - 1) = 8 * n - 8 from by omega]
  have : (((BitVec.ofInt 64 x).toNat : Int) / 2 ^ (8 * n - 8) % 256) = (((BitVec.ofInt 64 x).toNat / 2 ^ (8 * n - 8) % 256 : Nat) : Int) := by
    rw [Int.natCast_emod, Int.natCast_ediv, Int.natCast_pow]
    rfl
  rw [this, BitVec.ofInt_natCast]
  rfl

theorem word_any (g : Nat) (c : BitVec 32) (x : Int) (w : World) (hg : HasTab w g) :
    Calls Try.prog 17 #[.pointer (some ⟨g, 0, none⟩), u32 c, .int .i64 x] w fun e w' => e = .returned (u32 (word c (BitVec.ofInt 64 x))) ∧ w = w' := by
  have HG := Lib.hid hg
  clear hg
  go_enter Try.func17, Try.ntmps17
  go_wp2
  go_loop [1, 7] (fun v s => ∃ (n : Nat) (d : BitVec 32), n ≤ 8 ∧ s = .int .i64 (8 * (n : Int) - 8) ∧ v = u32 d ∧ Hid (Crc.bytes d (BitVec.ofInt 64 x) n = word c (BitVec.ofInt 64 x))) (fun _ s => (intOf s + 8).toNat)
  case atStart => exact ⟨8, c, by omega, rfl, rfl, Lib.hid (show Crc.bytes c (BitVec.ofInt 64 x) 8 = word c (BitVec.ofInt 64 x) from rfl)⟩
  case round =>
    obtain ⟨n, d, hn, rfl, rfl, hh⟩ := hrel
    by_cases hlt : 1 ≤ n
    · go_wp2_with (go_at_call 18; refine (with_any _ _ _ (by omega) (by omega) _ HG.out).mono ?_; rintro e w' ⟨rfl, rfl⟩)
      go_round
      case rel =>
        refine ⟨n - 1, _, by omega, ?_, rfl, Lib.hid ?_⟩
        · rw [show 8 * ((n - 1 : Nat) : Int) - 8 = 8 * (n : Int) - 8 - 8 from by omega]
        · obtain ⟨m, rfl⟩ : ∃ m, n = m + 1 := ⟨n - 1, by omega⟩
          rw [piece_form x (m + 1) hlt]
          exact hh.out
      case measure => simp [intOf]; omega
    · obtain rfl : n = 0 := by omega
      go_wp2
      go_ret
      exact ⟨ret_int (by have := hh.out; rw [← this]; rfl), rfl⟩

theorem HasTab.of_row {w : World} {g : Nat} (h : w.heap[g]? = some (.cells (tabCells 256) 36 (0, 0))) : HasTab w g := by
  intro i hi
  rw [cell_of_row _ _ _ _ _ _ h, tabCells_get _ _ hi, if_pos hi]

theorem store_tab (w : World) : (storeCells ⟨w.heap.size, 0, none⟩ (tabCells 256).toList 0).run Try.prog (w.alloc (.cells (tabCells 0) 36)) = .ok () (w.alloc (.cells (tabCells 256) 36)) :=
  run_storeCells_new w 36 (tabCells 0) (tabCells 256) (by kernel_rfl) (by rw [tabCells_size, tabCells_size]) (tabCells_one 256)

theorem hasTab_new (w : World) : HasTab (w.alloc (.cells (tabCells 256) 36)) w.heap.size := HasTab.of_row (heap_alloc_new _ _)

theorem byte_call (c : BitVec 32) (b : Int) (hb0 : 0 ≤ b) (hb1 : b < 256) (w : World) :
    Calls Try.prog 11 #[u32 c, .int .u8 b] w fun e w' => e = .returned (u32 (byte c (BitVec.ofInt 32 b))) ∧ Below w.heap.size w w' := by
  go_enter Try.func11, Try.ntmps11
  have hz := zeros_run
  have hst := store_tab
  go_wp2_with (first
    | (go_at_call 16; refine (table_any _).mono ?_; rintro e w1 ⟨rfl, hB1⟩)
    | (go_at_call 18; refine (with_any _ _ _ hb0 hb1 _ (hasTab_new _)).mono ?_; rintro e w2 ⟨rfl, rfl⟩))
  go_ret
  exact ⟨rfl, hB1.alloc hB1.size _⟩

theorem word_call (c : BitVec 32) (x : Int) (w : World) :
    Calls Try.prog 13 #[u32 c, .int .i64 x] w fun e w' => e = .returned (u32 (word c (BitVec.ofInt 64 x))) ∧ Below w.heap.size w w' := by
  go_enter Try.func13, Try.ntmps13
  have hz := zeros_run
  have hst := store_tab
  go_wp2_with (first
    | (go_at_call 16; refine (table_any _).mono ?_; rintro e w1 ⟨rfl, hB1⟩)
    | (go_at_call 17; refine (word_any _ _ _ _ (hasTab_new _)).mono ?_; rintro e w2 ⟨rfl, rfl⟩))
  go_ret
  exact ⟨rfl, hB1.alloc hB1.size _⟩

/-- A list of words' check, by definition. -/
def ofWords (l : List Int) : BitVec 32 := all (BitVec.allOnes 32) (l.map (BitVec.ofInt 64))

/-- The slice reads as these numbers. -/
def ReadsInts (w : World) (A : Option Addr) (n : Nat) (xs : List Int) : Prop :=
  xs.length = n ∧ (0 < n → ∃ ad, A = some ad ∧ ad.block < w.heap.size ∧ ∀ j x, xs[j]? = some x → w.cell? (ad.add j) = some (.int .i64 x))

theorem block_add (a : Addr) (n : Nat) : (a.add n).block = a.block := by unfold Addr.add; split <;> rfl

theorem ReadsInts.below {w w' : World} {A : Option Addr} {n : Nat} {xs : List Int} (h : ReadsInts w A n xs) (hb : Below w.heap.size w w') : ReadsInts w' A n xs := by
  refine ⟨h.1, fun hn => ?_⟩
  obtain ⟨ad, e, hlt, hc⟩ := h.2 hn
  exact ⟨ad, e, Nat.lt_of_lt_of_le hlt hb.size, fun j x hj => (hb.cell (p := ad.add j) (by rw [block_add]; exact hlt)).trans (hc j x hj)⟩

theorem HasTab.below {w w' : World} {g : Nat} (h : HasTab w g) (hg : g < w.heap.size) (hb : Below w.heap.size w w') : HasTab w' g :=
  fun i hi => (hb.cell (p := ⟨g, i, none⟩) hg).trans (h i hi)

/-- The check behind the first ones. -/
def acc (xs : List Int) (k : Nat) : BitVec 32 := all (BitVec.allOnes 32) ((xs.take k).map (BitVec.ofInt 64))
theorem acc_succ (l : List Int) (k : Nat) (x : Int) (h : l[k]? = some x) : acc l (k + 1) = word (acc l k) (BitVec.ofInt 64 x) := by
  have : l.take (k + 1) = l.take k ++ [x] := by
    rw [List.take_add_one, h]; rfl
  unfold acc
  rw [this, List.map_append, all_append]
  rfl
theorem acc_zero (l : List Int) : acc l 0 = BitVec.allOnes 32 := rfl
theorem acc_all (l : List Int) (k : Nat) (h : l.length ≤ k) : acc l k = ofWords l := by
  unfold acc ofWords
  rw [List.take_of_length_le h]

/-- The check that is told. -/
def sumOf (xs : List Int) : Int := 4294967295 - ((ofWords xs).toNat : Int)
theorem not_form (c : BitVec 32) : wrap64 (bits .xor .u32 IntKind.u32.max (c.toNat : Int)) = 4294967295 - (c.toNat : Int) := by
  have h : IntKind.u32.max = ((BitVec.allOnes 32).toNat : Int) := rfl
  rw [h, bits_xor32, BitVec.allOnes_xor, BitVec.toNat_not]
  have := c.isLt
  unfold wrap64
  omega

theorem of_call (A : Option Addr) (n cap : Nat) (xs : List Int) (w : World) (hr : ReadsInts w A n xs) (hn : n ≤ 1000000) :
    Calls Try.prog 10 #[.slice A n cap] w fun e w' => e = .returned (.int .i64 (sumOf xs)) ∧ Below w.heap.size w w' := by
  go_enter Try.func10, Try.ntmps10
  have hz := zeros_run
  have hst := store_tab
  go_wp2_with (first
    | (go_at_call 16; refine (table_any _).mono ?_; rintro e w1 ⟨rfl, hB1⟩))
  have hB2 : Below w.heap.size w (w1.alloc (.cells (tabCells 256) 36)) := hB1.alloc hB1.size _
  have hT : HasTab (w1.alloc (.cells (tabCells 256) 36)) w1.heap.size := hasTab_new _
  have hR := hr.below hB2
  generalize hW : w1.alloc (.cells (tabCells 256) 36) = W at *
  generalize w1.heap.size = g at *
  clear hz hst hW hB1
  have HR := Lib.hid hR
  have HT := Lib.hid hT
  clear hR hT hr
  go_loop [4, 10] (fun c i => ∃ k : Nat, k ≤ n ∧ i = .int .i64 k ∧ c = u32 (acc xs k)) (fun _ i => n - (intOf i).toNat)
  case atStart => exact ⟨0, by omega, rfl, rfl⟩
  case round =>
    obtain ⟨k, hk, rfl, rfl⟩ := hrel
    by_cases hlt : k < n
    · obtain ⟨ad, rfl, hb, hc⟩ := HR.out.2 (by omega)
      have hkx : k < xs.length := by have := HR.out.1; omega
      have hck := hc k xs[k] (List.getElem?_eq_getElem hkx)
      have HN := Lib.hid (acc_succ xs k xs[k] (List.getElem?_eq_getElem hkx))
      clear hc
      generalize xs[k] = x at *
      go_wp2_with (go_at_call 17; refine (word_any _ _ _ _ HT.out).mono ?_; rintro e w2 ⟨rfl, rfl⟩)
      go_round
      case rel => exact ⟨k + 1, by omega, by go_num, by rw [HN.out]⟩
      case measure => simp [intOf]; omega
    · obtain rfl : k = n := by omega
      go_wp2
      go_ret
      refine ⟨?_, hB2⟩
      have hl := HR.out.1
      have ha := acc_all xs k (by omega)
      exact ret_int (by rw [not_form, ha]; rfl)

theorem _root_.Go.RowKit.Below.next {w a b : World} (h : Below w.heap.size w a) (k : Below a.heap.size a b) : Below w.heap.size w b := h.trans (k.mono h.size)

theorem ReadsInts.nil (w : World) : ReadsInts w none 0 [] := ⟨rfl, fun h => absurd h (by omega)⟩

theorem ReadsInts.new (w : World) (xs : List Int) (t : TypeId) : ReadsInts (w.alloc (.cells (xs.map (Value.int .i64)).toArray t)) (some ⟨w.heap.size, 0, none⟩) xs.length xs := by
  refine ⟨rfl, fun _ => ⟨_, rfl, by simp, fun j x hj => ?_⟩⟩
  have : (⟨w.heap.size, 0, none⟩ : Addr).add j = ⟨w.heap.size, j, none⟩ := by unfold Addr.add; split <;> simp_all
  rw [this, cell_of_row _ _ _ _ _ _ (heap_alloc_new _ _)]
  simp [hj]

theorem sumOf_nil : sumOf [] = 0 := by decide
theorem sumOf_eight : sumOf [3544952156018063160] = 2598427311 := by decide +kernel
theorem byte_nought : byte 0#32 (BitVec.ofInt 32 0) = 0#32 := by decide
theorem byte_top : byte 0#32 (BitVec.ofInt 32 128) = 3988292384#32 := by decide

theorem awake_any (w : World) : Calls Try.prog 9 #[] w fun e w' => e = .returned (.bool true) ∧ Below w.heap.size w w' := by
  go_enter Try.func9, Try.ntmps9
  go_wp2_with fail
  refine (of_call none 0 0 [] _ (ReadsInts.nil _) (by omega)).mono ?_
  rw [sumOf_nil]
  rintro e w1 ⟨rfl, hB1⟩
  go_wp2_with fail
  refine (byte_call 0#32 0 (by omega) (by omega) _).mono ?_
  rw [byte_nought]
  rintro e w2 ⟨rfl, hB2⟩
  go_wp2_with fail
  refine (byte_call 0#32 128 (by omega) (by omega) _).mono ?_
  rw [byte_top]
  rintro e w3 ⟨rfl, hB3⟩
  go_wp2_with fail
  refine (of_call _ _ _ [3544952156018063160] _ (ReadsInts.new w3 [3544952156018063160] 3) (by simp)).mono ?_
  rw [sumOf_eight]
  rintro e w4 ⟨rfl, hB4⟩
  go_wp2
  go_ret
  exact ⟨rfl, (((hB1.next hB2).next hB3).alloc ((hB1.next hB2).next hB3).size _).next hB4⟩

theorem toNat_inj_beq (a b : BitVec 32) (h : ¬ a = b) : ((a.toNat : Int) == (b.toNat : Int)) = false := by
  rw [beq_eq_false_iff_ne]
  intro e
  exact h (BitVec.eq_of_toNat_eq (by omega))

theorem sumOnly_walk (c d : BitVec 32) (a b : Int) (ha0 : 0 ≤ a) (ha1 : a < 256) (hb0 : 0 ≤ b) (hb1 : b < 256) (w : World) :
    Calls Try.prog 5 #[u32 c, u32 d, .int .u8 a, .int .u8 b] w fun e w' => e = .returned (.bool true) ∧ Below w.heap.size w w' := by
  have hA : BitVec.ofInt 32 a = BitVec.ofInt 32 b ↔ a = b := by
    constructor
    · intro h
      have := congrArg BitVec.toNat h
      rw [BitVec.toNat_ofInt, BitVec.toNat_ofInt] at this
      omega
    · intro h; rw [h]
  by_cases h1 : c = d <;> by_cases h2 : a = b
  all_goals
    have h3 : ((c.toNat : Int) == (d.toNat : Int)) = decide (c = d) := by
      first | (subst h1; simp; done) | (rw [toNat_inj_beq _ _ h1]; simp [h1])
    have h4 : (((byte c (BitVec.ofInt 32 a)).toNat : Int) == ((byte d (BitVec.ofInt 32 a)).toNat : Int)) = decide (c = d) := by
      first | (subst h1; simp; done) | (rw [toNat_inj_beq _ _ (fun e => h1 (byte_inj e))]; simp [h1])
    have h5 : (((byte c (BitVec.ofInt 32 a)).toNat : Int) == ((byte c (BitVec.ofInt 32 b)).toNat : Int)) = decide (a = b) := by
      first | (subst h2; simp; done) | (rw [toNat_inj_beq _ _ (fun e => h2 (hA.1 (byte_inj' e)))]; simp [h2])
    have h6 : (a == b) = decide (a = b) := by
      first | (subst h2; simp; done) | (rw [beq_eq_false_iff_ne.2 h2]; simp [h2])
    have H3 := Lib.hid h3
    have H4 := Lib.hid h4
    have H5 := Lib.hid h5
    have H6 := Lib.hid h6
    clear h3 h4 h5 h6 hA h1 h2
    go_enter Try.func5, Try.ntmps5
    go_wp2_with fail
    refine (awake_any _).mono ?_
    rintro e w1 ⟨rfl, hB1⟩
    go_wp2_with fail
    refine (byte_call c a ha0 ha1 _).mono ?_
    rintro e w2 ⟨rfl, hB2⟩
    go_wp2_with fail
    refine (byte_call d a ha0 ha1 _).mono ?_
    rintro e w3 ⟨rfl, hB3⟩
    have h3 := H3.out
    have h4 := H4.out
    go_wp2_with fail
    refine (byte_call c a ha0 ha1 _).mono ?_
    rintro e w4 ⟨rfl, hB4⟩
    go_wp2_with fail
    refine (byte_call c b hb0 hb1 _).mono ?_
    rintro e w5 ⟨rfl, hB5⟩
    have h5 := H5.out
    have h6 := H6.out
    go_wp2
    go_ret
    exact ⟨rfl, (((hB1.next hB2).next hB3).next hB4).next hB5⟩

theorem u32_of {a : Int} (h : (Lit.int .u32 a).wf = true) : ∃ c : BitVec 32, a = (c.toNat : Int) := by
  refine ⟨BitVec.ofInt 32 a, ?_⟩
  have hw : 0 ≤ a ∧ a < 4294967296 := by
    simp [Lit.wf, IntKind.min, IntKind.max, IntKind.signed, IntKind.bits] at h
    omega
  rw [BitVec.toNat_ofInt]
  omega

theorem u8_of {a : Int} (h : (Lit.int .u8 a).wf = true) : 0 ≤ a ∧ a < 256 := by
  simp [Lit.wf, IntKind.min, IntKind.max, IntKind.signed, IntKind.bits] at h
  omega
end Go.Proofs.Ytggbmcmajdbkhaa
