/- The walk of the law SumTurns of the sum functions. -/
import Derived.Test.YtggbmcmajdbkhaaHalves
import Derived.WalkSpells
import Derived.StillTactics
import Derived.Laws.Pointers
namespace Go.Proofs.Ytggbmcmajdbkhaa
open Go.RowKit
open Crc
set_option maxHeartbeats 1000000
set_option maxRecDepth 100000

/-- Words, each turned by its own. -/
def turned (a b : List Int) : List Int := List.zipWith (fun x y => bits .xor .i64 x y) a b

theorem turned_take (a b : List Int) (k : Nat) (x y : Int) (ha : a[k]? = some x) (hb : b[k]? = some y) :
    ints ((turned a b).take (k + 1)) = ints ((turned a b).take k) ++ [.int .i64 (bits .xor .i64 x y)] := by
  rw [List.take_add_one]
  have : (turned a b)[k]? = some (bits .xor .i64 x y) := by
    unfold turned
    rw [List.getElem?_zipWith, ha, hb]
  rw [this]
  simp

theorem ints_get {l : List Int} {k : Nat} {u : Value} (h : (ints l)[k]? = some u) : ∃ x, l[k]? = some x ∧ u = .int .i64 x := by
  rw [List.getElem?_map] at h
  cases hx : l[k]? with
  | none => rw [hx] at h; cases h
  | some x => rw [hx] at h; injection h with h; exact ⟨x, rfl, h.symm⟩

theorem ne_own {w : World} {base e size n : Nat} {v : Value} {xs : List Value} (h : w.ownsRow base e size v n xs) (a : Addr) (k : Nat) (ha : a.block < base) : some (a.add k).block ≠ v.ownBlock := by
  rw [block_of_add]
  intro hk
  have := own_ge h hk.symm
  omega

theorem own_lt {w : World} {base e size n : Nat} {v : Value} {xs : List Value} (h : w.ownsRow base e size v n xs) {g : Nat} (hg : v.ownBlock = some g) : g < w.heap.size := by
  rcases h.2 with ⟨rfl, _⟩ | ⟨g', cap, cur, rfl, _, hh, _⟩
  · simp [Value.ownBlock] at hg
  · simp [Value.ownBlock] at hg
    subst hg
    rcases Nat.lt_or_ge g' w.heap.size with hlt | hge
    · exact hlt
    · rw [Array.getElem?_eq_none hge] at hh; cases hh

theorem sumOf_not (l : List Int) : sumOf l = (((~~~ (ofWords l)).toNat : Nat) : Int) := by
  unfold sumOf
  rw [BitVec.toNat_not]
  have := (ofWords l).isLt
  omega

theorem bits_sums (l m : List Int) : bits .xor .i64 (sumOf l) (sumOf m) = (((ofWords l ^^^ ofWords m).toNat : Nat) : Int) := by
  rw [sumOf_not, sumOf_not]
  have h : bits .xor .i64 (((~~~ (ofWords l)).toNat : Nat) : Int) (((~~~ (ofWords m)).toNat : Nat) : Int) = IntKind.i64.wrap (((BitVec.ofInt 64 (((~~~ (ofWords l)).toNat : Nat) : Int) ^^^ BitVec.ofInt 64 (((~~~ (ofWords m)).toNat : Nat) : Int)).toNat : Nat) : Int) := rfl
  rw [h, BitVec.ofInt_natCast, BitVec.ofInt_natCast, BitVec.toNat_xor, BitVec.toNat_ofNat, BitVec.toNat_ofNat]
  have h1 := (~~~ (ofWords l)).isLt
  have h2 := (~~~ (ofWords m)).isLt
  rw [Nat.mod_eq_of_lt (by omega), Nat.mod_eq_of_lt (by omega), ← BitVec.toNat_xor, IntKind.wrap_i64]
  rw [show ~~~ (ofWords l) ^^^ ~~~ (ofWords m) = ofWords l ^^^ ofWords m from by
    apply BitVec.eq_of_getLsbD_eq
    intro i hi
    simp only [BitVec.getLsbD_xor, BitVec.getLsbD_not, hi, decide_true, Bool.true_and]
    cases (ofWords l).getLsbD i <;> cases (ofWords m).getLsbD i <;> rfl]
  have h3 := (ofWords l ^^^ ofWords m).isLt
  omega

theorem ofWords_turn (a c : List Int) (h : a.length = c.length) : ofWords (turned a c) = ofWords a ^^^ all 0#32 (c.map (BitVec.ofInt 64)) := by
  unfold ofWords
  have : (turned a c).map (BitVec.ofInt 64) = List.zipWith (· ^^^ ·) (a.map (BitVec.ofInt 64)) (c.map (BitVec.ofInt 64)) := by
    unfold turned
    rw [List.map_zipWith, List.zipWith_map]
    congr 1
    funext x y
    exact bits_xor64 x y
  rw [this, ← all_xor _ _ _ _ (by simpa using h), BitVec.xor_zero]

theorem turns_eq (a b c : List Int) (ha : a.length = c.length) (hb : b.length = c.length) :
    (bits .xor .i64 (sumOf a) (sumOf (turned a c)) == bits .xor .i64 (sumOf b) (sumOf (turned b c))) = true := by
  rw [bits_sums, bits_sums, ofWords_turn a c ha, ofWords_turn b c hb, ← BitVec.xor_assoc, ← BitVec.xor_assoc, BitVec.xor_self, BitVec.xor_self]
  simp

def ApartV (u v : Value) : Prop := ∀ g, u.ownBlock = some g → v.ownBlock ≠ some g

theorem sumTurns_walk (A B C : Option Addr) (n ca cb cc : Nat) (xa xb xc : List Int) (w : World)
    (ha : Reads w w.heap.size 1 A n (ints xa)) (hb : Reads w w.heap.size 1 B n (ints xb)) (hc : Reads w w.heap.size 1 C n (ints xc)) (hn : n ≤ 100) :
    Calls Try.prog 4 #[.slice A n ca, .slice B n cb, .slice C n cc] w fun e w' => e = .returned (.bool true) ∧ Below w.heap.size w w' := by
  have d1 : decide (100 < (n : Int)) = false := by simp; omega
  have HA := Lib.hid ha
  have HB := Lib.hid hb
  have HC := Lib.hid hc
  clear ha hb hc
  obtain ⟨i0, hi0, hz0, hz1, hz2⟩ := info_parts int_info
  go_enter Try.func4, Try.ntmps4
  go_wp2_with fail
  refine (awake_any _).mono ?_
  rintro e w1 ⟨rfl, hB1⟩
  go_wp2_with fail
  go_loopw [8, 9, 10] (fun vx vy i wr => ∃ k : Nat, k ≤ n ∧ i = .int .i64 k ∧ wr.ownsRow w1.heap.size 3 1 vx k (ints ((turned xa xc).take k)) ∧ wr.ownsRow w1.heap.size 3 1 vy k (ints ((turned xb xc).take k)) ∧ ApartV vx vy ∧ w1.heap.size ≤ wr.heap.size ∧ Below w.heap.size w wr) (fun _ _ i _ => n - (intOf i).toNat)
  case atStart => exact ⟨0, by omega, rfl, ⟨by simp, .inl ⟨rfl, rfl⟩⟩, ⟨by simp, .inl ⟨rfl, rfl⟩⟩, by simp [ApartV, Value.ownBlock], Nat.le_refl _, hB1⟩
  case round =>
    obtain ⟨k, hk, rfl, hox, hoy, hap, hs1, hBr⟩ := hrel
    by_cases hlt : k < n
    · obtain ⟨adA, x, rfl, hbA, hxA, hcA⟩ := (HA.out.below hBr).at_ hlt
      obtain ⟨adB, y, rfl, hbB, hxB, hcB⟩ := (HB.out.below hBr).at_ hlt
      obtain ⟨adC, z, rfl, hbC, hxC, hcC⟩ := (HC.out.below hBr).at_ hlt
      obtain ⟨x, hxA', rfl⟩ := ints_get hxA
      obtain ⟨y, hxB', rfl⟩ := ints_get hxB
      obtain ⟨z, hxC', rfl⟩ := ints_get hxC
      have HT1 := Lib.hid (turned_take xa xc k x z hxA' hxC')
      have HT2 := Lib.hid (turned_take xb xc k y z hxB' hxC')
      have HOX := Lib.hid hox
      have HOY := Lib.hid hoy
      have HAP := Lib.hid hap
      have hs0 : w.heap.size ≤ wr.heap.size := hBr.size
      have hs01 : w.heap.size ≤ w1.heap.size := hB1.size
      have HNA := Lib.hid (ne_own hox adA k (by omega))
      have HNB := Lib.hid (ne_own hox adB k (by omega))
      have HNC := Lib.hid (ne_own hox adC k (by omega))
      clear hox hoy hap hxA hxB hxC hxA' hxB' hxC'
      go_wp2_with fail
      go_region_held3 (fun w' => w'.cell? (adA.add k) = some (.int .i64 x) ∧ w'.cell? (adB.add k) = some (.int .i64 y) ∧ w'.cell? (adC.add k) = some (.int .i64 z))
        (first
          | go_keep
          | (go_split_ands
             refine ⟨?_, ?_, ?_⟩
             · (rw [hgrow.cell_far _ (by simp [block_of_add]; omega) HNA.out]; assumption)
             · (rw [hgrow.cell_far _ (by simp [block_of_add]; omega) HNB.out]; assumption)
             · (rw [hgrow.cell_far _ (by simp [block_of_add]; omega) HNC.out]; assumption)))
        ((refine step_append_lies _ (by rfl) _ _ _ (by rfl) w1.heap.size 3 i0 _ 1 8 Try.underlying22 hi0 hz0 hz1 hz2 rfl (by omega) _ k _ (by rfl) ((HOX.out.alloc _).drew) ⟨_, 0, none⟩ 1 1 [_] (by rfl) (by rfl) (World.news_of_block (cs := #[_]) (t := 3) (fr := (0, 0)) (heap_alloc_new _ _)) (by simp [Value.oneCell']) (by omega) (by simp only [maxLen]; omega) (by omega) (by simp; omega) _ rfl ?_; intro gx cx w2 hownx hgrow hat hlt))
      have hap2 : ApartV (.slice (some ⟨gx, 0, none⟩) (k + 1) cx) u9 := by
        intro g hg he
        have hgx : gx = g := by simpa [Value.ownBlock] using hg
        subst hgx
        rcases hat with h | h
        · exact HAP.out _ h he
        · have := own_lt HOY.out he
          simp at h
          omega
      have hoy2 : w2.ownsRow w1.heap.size 3 1 u9 k (ints ((turned xb xc).take k)) := ((HOY.out.alloc _).drew).kept hgrow (by
        cases hv : u9.ownBlock with
        | none => exact .inl rfl
        | some g => exact .inr (fun e => HAP.out g e.symm hv))
      have hB2 : Below w.heap.size w w2 := ((hBr.alloc hBr.size _).drew).grown hgrow (by simp; omega) (fun g hg => by have := own_ge HOX.out hg; omega)
      have hs2 : w1.heap.size ≤ w2.heap.size := by have := hgrow.size; simp at this; omega
      have hs3 : w.heap.size ≤ w2.heap.size := by omega
      have hB' := hgrow.size
      obtain ⟨hA2, hBB2, hC2⟩ : w2.cell? (adA.add k) = some (.int .i64 x) ∧ w2.cell? (adB.add k) = some (.int .i64 y) ∧ w2.cell? (adC.add k) = some (.int .i64 z) := by assumption
      have hbA2 : adA.block < w.heap.size := by assumption
      have HNB2 := Lib.hid (ne_own hoy2 adB k (by omega))
      have HNC2 := Lib.hid (ne_own hoy2 adC k (by omega))
      rw [← HT1.out] at hownx
      have HOX2 := Lib.hid hownx
      have HOY2 := Lib.hid hoy2
      have HAP2 := Lib.hid hap2
      clear hap2 hoy2 hownx hat hgrow hcA hcB hcC
      simp at hB'
      go_wp2_with fail
      go_region_held3 (fun w' => w'.cell? (adB.add k) = some (.int .i64 y) ∧ w'.cell? (adC.add k) = some (.int .i64 z))
        (first
          | go_keep
          | (go_split_ands
             refine ⟨?_, ?_⟩
             · (rw [hgrow.cell_far _ (by simp [block_of_add]; omega) HNB2.out]; assumption)
             · (rw [hgrow.cell_far _ (by simp [block_of_add]; omega) HNC2.out]; assumption)))
        ((refine step_append_lies _ (by rfl) _ _ _ (by rfl) w1.heap.size 3 i0 _ 1 8 Try.underlying22 hi0 hz0 hz1 hz2 rfl (by omega) _ k _ (by rfl) ((HOY2.out.alloc _).drew) ⟨_, 0, none⟩ 1 1 [_] (by rfl) (by rfl) (World.news_of_block (cs := #[_]) (t := 3) (fr := (0, 0)) (heap_alloc_new _ _)) (by simp [Value.oneCell']) (by omega) (by simp only [maxLen]; omega) (by omega) (by simp; omega) _ rfl ?_; intro gy cy w3 howny hgrow hat hlt))
      have hap3 : ApartV (.slice (some ⟨gx, 0, none⟩) (k + 1) cx) (.slice (some ⟨gy, 0, none⟩) (k + 1) cy) := by
        intro g hg he
        have hgx : gx = g := by simpa [Value.ownBlock] using hg
        have hgy : gy = g := by simpa [Value.ownBlock] using he
        subst hgx
        subst hgy
        rcases hat with h | h
        · exact HAP2.out _ hg h
        · have := own_lt HOX2.out hg
          simp at h
          omega
      have hox3 : w3.ownsRow w1.heap.size 3 1 (.slice (some ⟨gx, 0, none⟩) (k + 1) cx) (k + 1) (ints ((turned xa xc).take (k + 1))) := ((HOX2.out.alloc _).drew).kept hgrow (.inr (fun e => HAP2.out gx rfl e.symm))
      have hB3 : Below w.heap.size w w3 := ((hB2.alloc hB2.size _).drew).grown hgrow (by simp; omega) (fun g hg => by have := own_ge HOY2.out hg; omega)
      have hs4 : w1.heap.size ≤ w3.heap.size := by have := hgrow.size; simp at this; omega
      rw [← HT2.out] at howny
      have HOX3 := Lib.hid hox3
      have HOY3 := Lib.hid howny
      have HAP3 := Lib.hid hap3
      clear hap3 howny hox3 hat hgrow
      go_wp2_with fail
      go_roundw
      case rel => exact ⟨k + 1, by omega, by go_num, HOX3.out, HOY3.out, HAP3.out, hs4, hB3⟩
      case measure => simp [intOf]; omega
    · obtain rfl : k = n := by omega
      have hla := HA.out.ints.1
      have hlb := HB.out.ints.1
      have hlc := HC.out.ints.1
      have HT := Lib.hid (turns_eq xa xb xc (by omega) (by omega))
      rw [List.take_of_length_le (by unfold turned; rw [List.length_zipWith]; omega)] at hox hoy
      obtain ⟨A2, c2, rfl, hr2⟩ := own_form hox
      obtain ⟨A3, c3, rfl, hr3⟩ := own_form hoy
      have HR2 := Lib.hid hr2
      have HR3 := Lib.hid hr3
      clear hr2 hr3 hox hoy hla hlb hlc
      go_wp2_with fail
      refine (of_call A _ ca xa _ (HA.out.ints.below hBr) (by omega)).mono ?_
      rintro e w6 ⟨rfl, hB6⟩
      go_wp2_with fail
      refine (of_call A2 _ c2 _ _ (HR2.out.ints.below hB6) (by omega)).mono ?_
      rintro e w7 ⟨rfl, hB7⟩
      go_wp2_with fail
      refine (of_call B _ cb xb _ (HB.out.ints.below (hBr.next' hB6 hB7)) (by omega)).mono ?_
      rintro e w8 ⟨rfl, hB8⟩
      go_wp2_with fail
      refine (of_call A3 _ c3 _ _ (HR3.out.ints.below (hB6.next' hB7 hB8)) (by omega)).mono ?_
      rintro e w9 ⟨rfl, hB9⟩
      have ht := HT.out
      go_wp2
      go_ret
      exact ⟨rfl, (((hBr.next hB6).next hB7).next hB8).next hB9⟩

theorem sumTurns_off (A B C : Option Addr) (na nb nc ca cb cc : Nat) (w : World) (h : 100 < na ∨ na ≠ nb ∨ na ≠ nc) :
    Calls Try.prog 4 #[.slice A na ca, .slice B nb cb, .slice C nc cc] w fun e w' => e = .returned (.bool true) ∧ Below w.heap.size w w' := by
  rcases (show 100 < na ∨ na ≤ 100 ∧ na ≠ nb ∨ na ≤ 100 ∧ na = nb ∧ na ≠ nc by omega) with h | ⟨h0, h⟩ | ⟨h0, h1, h⟩
  · have d1 : decide (100 < (na : Int)) = true := by simp; omega
    clear h
    go_enter Try.func4, Try.ntmps4
    go_wp2_with fail
    refine (awake_any _).mono ?_
    rintro e w1 ⟨rfl, hB1⟩
    go_wp2
    go_ret
    exact ⟨rfl, hB1⟩
  · have d1 : decide (100 < (na : Int)) = false := by simp; omega
    have d2 : ((na : Int) != (nb : Int)) = true := by rw [bne_iff_ne]; omega
    clear h
    go_enter Try.func4, Try.ntmps4
    go_wp2_with fail
    refine (awake_any _).mono ?_
    rintro e w1 ⟨rfl, hB1⟩
    go_wp2
    go_ret
    exact ⟨rfl, hB1⟩
  · subst h1
    have d1 : decide (100 < (na : Int)) = false := by simp; omega
    have d2 : ((na : Int) != (nc : Int)) = true := by rw [bne_iff_ne]; omega
    clear h
    go_enter Try.func4, Try.ntmps4
    go_wp2_with fail
    refine (awake_any _).mono ?_
    rintro e w1 ⟨rfl, hB1⟩
    go_wp2
    go_ret
    exact ⟨rfl, hB1⟩

theorem sumTurns_all (A B C : Option Addr) (na nb nc ca cb cc : Nat) (xa xb xc : List Int) (w : World)
    (ha : Reads w w.heap.size 1 A na (ints xa)) (hb : Reads w w.heap.size 1 B nb (ints xb)) (hc : Reads w w.heap.size 1 C nc (ints xc)) :
    Calls Try.prog 4 #[.slice A na ca, .slice B nb cb, .slice C nc cc] w fun e w' => e = .returned (.bool true) ∧ Below w.heap.size w w' := by
  by_cases h : 100 < na ∨ na ≠ nb ∨ na ≠ nc
  · exact sumTurns_off A B C na nb nc ca cb cc w h
  · obtain ⟨h1, h2⟩ : na = nb ∧ na = nc := by omega
    subst h1
    subst h2
    exact sumTurns_walk A B C na ca cb cc xa xb xc w ha hb hc (by omega)
end Go.Proofs.Ytggbmcmajdbkhaa
