/- The walk of the reference's Short. -/
import Derived.Test.YtdblecmelmeibaaCheck
namespace Go.Proofs.Ytdblecmelmeibaa
open Go.RowKit Go.Maps Go.ChangeMaps
set_option maxHeartbeats 1000000
set_option maxRecDepth 100000

def shortOf (acts : List PA) (most : Int) : Bool := acts.all (fun x => decide (x.val.size ≤ 100)) && decide ((acts.length : Int) ≤ most)
theorem all_step {acts : List PA} {k : Nat} {x : PA} (h : acts[k]? = some x) : (acts.drop k).all (fun x => decide (x.val.size ≤ 100)) = (decide (x.val.size ≤ 100) && (acts.drop (k + 1)).all (fun x => decide (x.val.size ≤ 100))) := by
  have hk : k < acts.length := by
    rcases Nat.lt_or_ge k acts.length with h' | h'
    · exact h'
    · rw [List.getElem?_eq_none h'] at h; cases h
  rw [List.getElem?_eq_getElem hk] at h
  injection h with h
  rw [List.drop_eq_getElem_cons hk, h]
  rfl

theorem short_any (A : Option Addr) (n c : Nat) (acts : List PA) (most : Int) (w : World) (h : RA w A n acts) (hn : n ≤ 9223372036854775807) :
    Calls Try.prog 9 #[.slice A n c, .int .i64 most] w fun e w' => e = .returned (.bool (shortOf acts most)) ∧ w = w' := by
  have HR := Lib.hid h
  clear h
  go_enter Try.func9, Try.ntmps9
  go_wp2
  go_loop [5] (fun i => ∃ k : Nat, k ≤ n ∧ i = .int .i64 k ∧ Hid (acts.all (fun x => decide (x.val.size ≤ 100)) = (acts.drop k).all (fun x => decide (x.val.size ≤ 100)))) (fun i => n - (intOf i).toNat)
  case atStart => exact ⟨0, by omega, rfl, Lib.hid rfl⟩
  case round =>
    obtain ⟨k, hk, rfl, HC⟩ := hrel
    by_cases hlt : k < n
    · obtain ⟨ad, x, rfl, hb, hx, hat⟩ := HR.out.at_ hlt
      obtain ⟨h0, h1, h2, h3, h4, h5⟩ := hat
      have HS := Lib.hid (all_step hx)
      clear hx
      by_cases hl : 100 < x.val.size
      · go_wp2
        go_ret
        refine ⟨ret_bool ?_, rfl⟩
        unfold shortOf
        rw [HC.out, HS.out]
        have : decide (x.val.size ≤ 100) = false := by simp; omega
        rw [this]
        rfl
      · go_wp2
        refine ⟨⟨k + 1, by omega, by go_num, Lib.hid ?_⟩, by simp [intOf]; omega⟩
        rw [HC.out, HS.out]
        have : decide (x.val.size ≤ 100) = true := by simp; omega
        rw [this]
        rfl
    · have HN := Lib.hid (show acts.drop k = [] from List.drop_eq_nil_of_le (by rw [HR.out.1]; omega))
      go_wp2
      go_ret
      refine ⟨ret_bool ?_, rfl⟩
      unfold shortOf
      rw [HC.out, HN.out, HR.out.1]
      rfl
end Go.Proofs.Ytdblecmelmeibaa
