/- The walks of alloc's Give and of the reference's functions. -/
import Derived.Test.YtjidfnogmedgnaaFree
import Derived.BigQuiet
namespace Go.Proofs.Ytjidfnogmedgnaa
open Go.RowKit
set_option maxHeartbeats 1000000
set_option maxRecDepth 100000

def isIn (xs : List Int) (x : Int) : Bool := xs.any fun y => y == x
theorem drop_step {xs : List Int} {k : Nat} {x : Int} (h : xs[k]? = some x) : xs.drop k = x :: xs.drop (k + 1) := by
  have hk : k < xs.length := by
    rcases Nat.lt_or_ge k xs.length with h' | h'
    · exact h'
    · rw [List.getElem?_eq_none h'] at h; cases h
  rw [List.getElem?_eq_getElem hk] at h
  injection h with h
  rw [List.drop_eq_getElem_cons hk, h]
theorem take_step {xs : List Int} {k : Nat} {x : Int} (h : xs[k]? = some x) : xs.take (k + 1) = xs.take k ++ [x] := by
  rw [List.take_add_one, h]; rfl

theorem in_any (A : Option Addr) (n c : Nat) (xs : List Int) (x : Int) (w : World) (h : RI w A n xs) (hn : n ≤ 1000000000) :
    Calls Try.prog 18 #[.slice A n c, .int .i64 x] w fun e w' => e = .returned (.bool (isIn xs x)) ∧ w = w' := by
  have HR := Lib.hid h
  clear h
  go_enter Try.func18, Try.ntmps18
  go_wp2
  go_loop [5] (fun i => ∃ k : Nat, k ≤ n ∧ i = .int .i64 k ∧ Hid (isIn xs x = isIn (xs.drop k) x)) (fun i => n - (intOf i).toNat)
  case atStart => exact ⟨0, by omega, rfl, Lib.hid rfl⟩
  case round =>
    obtain ⟨k, hk, rfl, HC⟩ := hrel
    by_cases hlt : k < n
    · obtain ⟨ad, y, rfl, hb, hx, hc⟩ := HR.out.at_ hlt
      have HS := Lib.hid (show isIn (xs.drop k) x = ((y == x) || isIn (xs.drop (k + 1)) x) from by rw [drop_step hx]; rfl)
      clear hx
      cases hyx : (y == x) with
      | true =>
        go_wp2
        go_ret
        exact ⟨ret_bool (by rw [HC.out, HS.out, hyx]; rfl), rfl⟩
      | false =>
        go_wp2
        refine ⟨⟨k + 1, by omega, by go_num, Lib.hid ?_⟩, by simp [intOf]; omega⟩
        rw [HC.out, HS.out, hyx]
        rfl
    · have HN := Lib.hid (show xs.drop k = [] from List.drop_eq_nil_of_le (by rw [HR.out.len]; omega))
      go_wp2
      go_ret
      exact ⟨ret_bool (by rw [HC.out, HN.out]; rfl), rfl⟩

/-- The tests of the reference at one place. -/
def prevOf (xs : List Int) : Nat → Int
  | 0 => 0
  | k + 1 => xs.getD k 0

theorem _root_.Go.RowKit.Below.drewN {B : Nat} {a w : World} (h : Below B a w) (n : Nat) : Below B a (w.drewN n) := h.trans ⟨rfl, rfl, rfl, Nat.le_refl _, fun _ _ => rfl⟩

theorem refCheck_any (A : Option Addr) (n c : Nat) (xs : List Int) (w : World) (h : RI w A n xs) (hn : n ≤ 1000000000) :
    Calls Try.prog 17 #[.slice A n c] w fun e w' => e = .returned (.bool (chk xs)) ∧ Below w.heap.size w w' := by
  have HR := Lib.hid h
  clear h
  go_enter Try.func17, Try.ntmps17
  go_wp2
  go_loopw [3] (fun i wr => ∃ k : Nat, k ≤ n ∧ i = .int .i64 k ∧ Hid (chk xs = chkFrom (prevOf xs k) (xs.drop k)) ∧ Below w.heap.size w wr) (fun i _ => n - (intOf i).toNat)
  case atStart => exact ⟨0, by omega, rfl, Lib.hid rfl, Below.refl _ _⟩
  case round =>
    obtain ⟨k, hk, rfl, HC, hB⟩ := hrel
    by_cases hlt : k < n
    · obtain ⟨ad, y, rfl, hb, hx, hc⟩ := (HR.out.below hB).at_ hlt
      have HX := Lib.hid hx
      have HS := Lib.hid (chk_step (prevOf xs k) xs k y hx)
      clear hx
      cases h1 : decide (y < 1) with
      | true =>
        have HF := Lib.hid (show isBlock y = false from by simp [isBlock]; simp at h1; omega)
        go_wp2_with fail
        go_quiet (fail)
        go_wp2
        go_ret
        exact ⟨ret_bool (by rw [HC.out, HS.out, HF.out]; rfl), hB.drewN _⟩
      | false =>
        cases h2 : decide (255 < y) with
        | true =>
          have HF := Lib.hid (show isBlock y = false from by simp [isBlock]; simp at h2; omega)
          go_wp2_with fail
          go_quiet (fail)
          go_wp2
          go_ret
          exact ⟨ret_bool (by rw [HC.out, HS.out, HF.out]; rfl), hB.drewN _⟩
        | false =>
          have HF := Lib.hid (show isBlock y = true from by simp [isBlock]; simp at h1 h2; omega)
          have HY := Lib.hid (show 0 < y from by simp at h1; omega)
          by_cases hk0 : k = 0
          · subst hk0
            have hc0 : wr.cell? ad = some (.int .i64 y) := by rw [← hc]; unfold Addr.add; split <;> simp_all
            clear hc
            go_wp2_with fail
            go_quiet (fail)
            go_wp2
            refine ⟨⟨1, by omega, by go_num, Lib.hid ?_, hB.drewN _⟩, by simp [intOf]; omega⟩
            rw [HC.out, HS.out, HF.out]
            have := HY.out
            simp [prevOf, this, HX.out]
          · have hd : 0 < k := by omega
            obtain ⟨k', HK⟩ : ∃ k', Hid (k = k' + 1) := ⟨k - 1, Lib.hid (by omega)⟩
            obtain ⟨ad', z, he, hbz, hz, hcz⟩ := (HR.out.below hB).at_ (show k' < n by have := HK.out; omega)
            obtain rfl : ad = ad' := by injection he
            have HP := Lib.hid (show prevOf xs k = z from by rw [HK.out]; simp [prevOf, hz])
            clear hz he hk0
            have hk1 : IntKind.i64.wrap ((k : Int) - 1) = (k' : Int) := by have := HK.out; rw [IntWalk.i64_in _ (by omega)]; omega
            have hk2 : k' < n := by have := HK.out; omega
            cases h3 : decide (y ≤ z) with
            | true =>
              go_wp2_with fail
              go_quiet (fail)
              go_wp2
              go_ret
              exact ⟨ret_bool (by rw [HC.out, HS.out, HP.out]; simp at h3; simp; omega), hB.drewN _⟩
            | false =>
              go_wp2_with fail
              go_quiet (fail)
              go_wp2
              refine ⟨⟨k + 1, by omega, by go_num, Lib.hid ?_, hB.drewN _⟩, by simp [intOf]; omega⟩
              rw [HC.out, HS.out, HF.out, HP.out]
              simp at h3
              simp [prevOf, h3, HX.out]
    · have HN := Lib.hid (show xs.drop k = [] from List.drop_eq_nil_of_le (by rw [HR.out.len]; omega))
      go_wp2
      go_ret
      exact ⟨ret_bool (by rw [HC.out, HN.out]; rfl), hB⟩
end Go.Proofs.Ytjidfnogmedgnaa
