/- The closure that tells what is open. -/
import Derived.Test.YtdblecmelmeibaaBehind
import Derived.Laws.BitsLemmas
namespace Go.Proofs.Ytdblecmelmeibaa
open Go.RowKit Go.Maps Go.ChangeMaps
set_option maxHeartbeats 1000000
set_option maxRecDepth 100000

def opn (G i : Nat) : Bool := !G.testBit i

theorem wraps32 (n : Int) (h₀ : 0 ≤ n) (h₁ : n < 2 ^ 32) : IntKind.u32.wrap n = n := by rw [IntKind.wrap_u32]; omega
theorem or_nat (a b : Nat) (ha : a < 4294967296) (hb : b < 4294967296) : bits .or .u32 (a : Int) (b : Int) = ((a ||| b : Nat) : Int) :=
  (bits_nat .u32 32 (by decide) wraps32 a b (by simpa using ha) (by simpa using hb)).2
theorem and_nat (a b : Nat) (ha : a < 4294967296) (hb : b < 4294967296) : bits .and .u32 (a : Int) (b : Int) = ((a &&& b : Nat) : Int) :=
  (bits_nat .u32 32 (by decide) wraps32 a b (by simpa using ha) (by simpa using hb)).1
theorem open_bits (G i : Nat) (hG : G < 4294967296) : (bits .and .u32 ((G : Int) / (2 ^ i : Int)) 1 == 0) = opn G i := by
  have e : ((G : Int) / (2 ^ i : Int)) = ((G / 2 ^ i : Nat) : Int) := by simp
  have h := and_nat (G / 2 ^ i) 1 (Nat.lt_of_le_of_lt (Nat.div_le_self _ _) hG) (by omega)
  rw [e]
  rw [show ((1 : Nat) : Int) = 1 from rfl] at h
  rw [h, Nat.and_one_is_mod]
  unfold opn
  rw [Nat.testBit_eq_decide_div_mod_eq, Bool.eq_iff_iff]
  simp
  omega

theorem open_any (G : Nat) (s : ByteArray) (b : Bool) (g i : Nat) (t : TypeId) (w : World) (hg : w.heap[g]? = some (.cells #[.int .u32 G, .string s, .bool b] t (0, 0))) (hi : i < 20) (hG : G < 4294967296) :
    Calls Try.prog 18 #[.int .i64 i, .pointer (some ⟨g, 0, none⟩)] w fun e w' => e = .returned (.bool (opn G i)) ∧ w = w' := by
  have hc : w.cell? ⟨g, 0, none⟩ = some (.int .u32 G) := by rw [cell_of_row _ _ _ _ _ _ hg]; rfl
  go_enter Try.func18, Try.ntmps18
  go_wp2
  go_ret
  exact ⟨ret_bool (open_bits G i hG), rfl⟩
end Go.Proofs.Ytdblecmelmeibaa
