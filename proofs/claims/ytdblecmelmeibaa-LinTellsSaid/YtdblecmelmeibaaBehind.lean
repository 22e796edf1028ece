/- The walks of what lin's Check calls: the closure that tells what is open, and what a key has behind an act. -/
import Derived.Test.YtdblecmelmeibaaMemo
import Derived.RegionTactic
import Derived.Deep.WholeRow
import Derived.Deep.RegionHeld3
import Derived.Scope
import Derived.FnLit
import Derived.Laws.ResultCell
import Derived.BigQuiet
import Derived.Deep.QuietTactic
namespace Go.Proofs.Ytdblecmelmeibaa
open Go.RowKit Go.Maps Go.ChangeMaps
set_option maxHeartbeats 1000000
set_option maxRecDepth 100000

theorem _root_.Go.RowKit.Below.next {w a b : World} (h : Below w.heap.size w a) (k : Below a.heap.size a b) : Below w.heap.size w b := h.trans (k.mono h.size)
theorem ret_bool {a b : Bool} (h : a = b) : Ending.returned (.bool a) = .returned (.bool b) := by rw [h]

/-- What a key has. -/
structure PK where
  val : ByteArray
  is : Bool
/-- An act. -/
structure PA where
  fr : Int
  to : Int
  kind : Int
  val : ByteArray
  found : Bool
  sure : Bool
abbrev kV (k : PK) : Value := .agg #[.string k.val, .bool k.is]
abbrev aV (x : PA) : Value := .agg #[.int .i64 x.fr, .int .i64 x.to, .int .i64 x.kind, .string x.val, .bool x.found, .bool x.sure]

def unfit (k : PK) (x : PA) : Bool := x.sure && (x.found != k.is || (x.kind == 2 && (k.is && !(x.val.toList == k.val.toList))))
def behindOf (k : PK) (x : PA) : PK × Bool :=
  if unfit k x then (k, false) else if x.kind = 1 then (⟨x.val, true⟩, true) else if x.kind = 3 then (⟨⟨#[]⟩, false⟩, true) else (k, x.kind == 2)

theorem behind_any (k : PK) (x : PA) (w : World) : Calls Try.prog 19 #[kV k, aV x] w fun e w' => e = .returned (.tuple #[kV (behindOf k x).1, .bool (behindOf k x).2]) ∧ Below w.heap.size w w' := by
  obtain ⟨kv, ki⟩ := k
  obtain ⟨fr, to, kind, val, found, sure⟩ := x
  obtain ⟨R, HR⟩ : ∃ R, Hid (behindOf ⟨kv, ki⟩ ⟨fr, to, kind, val, found, sure⟩ = R) := ⟨_, Lib.hid rfl⟩
  rw [HR.out]
  cases sure with
  | false =>
    go_enter Try.func19, Try.ntmps19
    go_wp2
    all_goals (try go_region_with (fail))
    all_goals (try go_wp2)
    all_goals (try simp only [Exit.inBlock, Exit.then])
    all_goals (refine bodyPost_ret (v := .tuple #[kV R.1, .bool R.2]) ?_ rfl ⟨rfl, ?_⟩)
    all_goals first
      | (rw [results_cell_tmp rfl]; go_simp; rw [← HR.out]; simp_all [behindOf, unfit]; done)
      | (repeat' (first | exact Below.refl _ _ | refine Below.drew ?_ | refine Below.alloc ?_ (by simp <;> omega) _))
  | true =>
    cases found <;> cases ki
    · cases h2 : (kind == 2)
      · go_enter Try.func19, Try.ntmps19
        go_wp2
        all_goals (try go_region_with (fail))
        all_goals (try go_wp2)
        all_goals (try simp only [Exit.inBlock, Exit.then])
        all_goals (refine bodyPost_ret (v := .tuple #[kV R.1, .bool R.2]) ?_ rfl ⟨rfl, ?_⟩)
        all_goals first
          | (rw [results_cell_tmp rfl]; go_simp; rw [← HR.out]; simp_all [behindOf, unfit]; done)
          | (repeat' (first | exact Below.refl _ _ | refine Below.drew ?_ | refine Below.alloc ?_ (by simp <;> omega) _))
      · go_enter Try.func19, Try.ntmps19
        go_wp2
        all_goals (try go_region_with (fail))
        all_goals (try go_wp2)
        all_goals (try simp only [Exit.inBlock, Exit.then])
        all_goals (refine bodyPost_ret (v := .tuple #[kV R.1, .bool R.2]) ?_ rfl ⟨rfl, ?_⟩)
        all_goals first
          | (rw [results_cell_tmp rfl]; go_simp; rw [← HR.out]; simp_all [behindOf, unfit]; done)
          | (repeat' (first | exact Below.refl _ _ | refine Below.drew ?_ | refine Below.alloc ?_ (by simp <;> omega) _))
    · go_enter Try.func19, Try.ntmps19
      go_wp2
      all_goals (try go_wp2)
      all_goals (try simp only [Exit.inBlock, Exit.then])
      all_goals (refine bodyPost_ret (v := .tuple #[kV R.1, .bool R.2]) ?_ rfl ⟨rfl, ?_⟩)
      all_goals first
        | (rw [results_cell_tmp rfl]; go_simp; rw [← HR.out]; simp_all [behindOf, unfit]; done)
        | (repeat' (first | exact Below.refl _ _ | refine Below.drew ?_ | refine Below.alloc ?_ (by simp <;> omega) _))
    · go_enter Try.func19, Try.ntmps19
      go_wp2
      all_goals (try go_wp2)
      all_goals (try simp only [Exit.inBlock, Exit.then])
      all_goals (refine bodyPost_ret (v := .tuple #[kV R.1, .bool R.2]) ?_ rfl ⟨rfl, ?_⟩)
      all_goals first
        | (rw [results_cell_tmp rfl]; go_simp; rw [← HR.out]; simp_all [behindOf, unfit]; done)
        | (repeat' (first | exact Below.refl _ _ | refine Below.drew ?_ | refine Below.alloc ?_ (by simp <;> omega) _))
    · cases h2 : (kind == 2)
      · go_enter Try.func19, Try.ntmps19
        go_wp2
        all_goals (try go_region_with (fail))
        all_goals (try go_wp2)
        all_goals (try simp only [Exit.inBlock, Exit.then])
        all_goals (refine bodyPost_ret (v := .tuple #[kV R.1, .bool R.2]) ?_ rfl ⟨rfl, ?_⟩)
        all_goals first
          | (rw [results_cell_tmp rfl]; go_simp; rw [← HR.out]; simp_all [behindOf, unfit]; done)
          | (repeat' (first | exact Below.refl _ _ | refine Below.drew ?_ | refine Below.alloc ?_ (by simp <;> omega) _))
      · cases hv : (val.toList == kv.toList)
        · go_enter Try.func19, Try.ntmps19
          go_wp2
          all_goals (try go_wp2)
          all_goals (try simp only [Exit.inBlock, Exit.then])
          all_goals (refine bodyPost_ret (v := .tuple #[kV R.1, .bool R.2]) ?_ rfl ⟨rfl, ?_⟩)
          all_goals first
            | (rw [results_cell_tmp rfl]; go_simp; rw [← HR.out]; simp_all [behindOf, unfit]; done)
            | (repeat' (first | exact Below.refl _ _ | refine Below.drew ?_ | refine Below.alloc ?_ (by simp <;> omega) _))
        · go_enter Try.func19, Try.ntmps19
          go_wp2
          all_goals (try go_region_with (fail))
          all_goals (try go_wp2)
          all_goals (try simp only [Exit.inBlock, Exit.then])
          all_goals (refine bodyPost_ret (v := .tuple #[kV R.1, .bool R.2]) ?_ rfl ⟨rfl, ?_⟩)
          all_goals first
            | (rw [results_cell_tmp rfl]; go_simp; rw [← HR.out]; simp_all [behindOf, unfit]; done)
            | (repeat' (first | exact Below.refl _ _ | refine Below.drew ?_ | refine Below.alloc ?_ (by simp <;> omega) _))
end Go.Proofs.Ytdblecmelmeibaa
