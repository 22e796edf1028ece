/- The law that the program's answer, whether an index is sound, is the document's: walked. -/
import Derived.Test.YtliaemoomhfcdaaMD
import Derived.Test.YtliaemoomhfcdaaIdxS
namespace Go.Proofs.Ytliaemoomhfcdaa
open Go.RowKit Go.Proofs.YtliaemoomhfcdaaW.PrintWords
set_option maxHeartbeats 2000000
set_option maxRecDepth 100000
set_option linter.unusedVariables false
set_option linter.unusedSimpArgs false

theorem awake15s : AW.lamplighterlaw15_awake.f = some true := by kernel_rfl
theorem soundTells_any (A : Option Addr) (c : Nat) (ws : List Int) (w : World) (h : Kd.C (Kd.int .i64) w A ws.length ws) (hc : ws.length ≤ c) :
    Calls Try.prog 7 #[.slice A ws.length c] w fun e w' => e = .returned (.bool true) ∧ Below w.heap.size w w' := by
  have HC := Lib.hid h
  have HAW := Lib.hid (AW.lamplighterlaw15_awake.calls true w awake15s)
  clear h
  by_cases hn : 1000 < ws.length
  · have e1 : (1000 : Int) < (ws.length : Int) := by omega
    clear hn
    go_enter Try.func7, Try.ntmps7
    go_wp2_with ((go_at_call 14; refine HAW.out.mono ?_; rintro e w1 ⟨rfl, hB1⟩))
    go_ret
    exact ⟨rfl, hB1⟩
  · have e1 : ¬ (1000 : Int) < (ws.length : Int) := by omega
    have HI := Lib.hid (fun W hW => isound_any A c ws W hW (by omega) hc)
    have HR := Lib.hid (fun W hW => r15sound_any A c ws W hW (by omega) hc)
    clear hn
    generalize soundRead ws = z at HI HR
    cases z
    all_goals
      go_enter Try.func7, Try.ntmps7
      go_wp2_with (first
        | (go_at_call 14; refine HAW.out.mono ?_; rintro e w1 ⟨rfl, hB1⟩)
        | (go_at_call 29; refine (HI.out _ (Kd.C_below HC.out hB1)).mono ?_; rintro e w2 ⟨rfl, hB2⟩)
        | (go_at_call 30; refine (HR.out _ (RI_of_C (Kd.C_below HC.out (hB1.next hB2)))).mono ?_; rintro e w3 ⟨rfl, hB3⟩))
      go_ret
      exact ⟨rfl, (hB1.next hB2).next hB3⟩
end Go.Proofs.Ytliaemoomhfcdaa
