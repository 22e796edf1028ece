/- The memo of lin's Check: a map from states to bools, and what it tells. -/
import Derived.Test.YtdblecmelmeibaaProg
import Derived.WalkKit
import Derived.Below
import Derived.Carry
import Derived.KernelRfl
import Derived.IntWalk
import Derived.WalkLawsBesides
import Derived.WalkSpells
import Derived.DeepKeys4
import Derived.Maps.Keyed
import Derived.Maps.Own
import Derived.Maps.OwnOps
import Derived.Lib.Hide
namespace Go.Proofs.Ytdblecmelmeibaa
open Go.RowKit Go.Maps Go.ChangeMaps
set_option maxHeartbeats 1000000
set_option maxRecDepth 100000

theorem laidOutL : laidOutB Try.prog = true := by kernel_rfl
theorem law55 : Keyed Try.prog 55 :=
  Keyed.of_law (deep_law_laid laidOutL (m := 3) (by omega) (of_decide_eq_true (by kernel_rfl)) (by kernel_rfl) (by rw [Try.underlying55]))
theorem cells55 : Try.prog.cellsOf 55 = 3 := by kernel_rfl
theorem cells50 : Try.prog.cellsOf 50 = 2 := by kernel_rfl
theorem cells53 : Try.prog.cellsOf 53 = 1 := by kernel_rfl
theorem cells9 : Try.prog.cellsOf 9 = 1 := by kernel_rfl
theorem cells4 : Try.prog.cellsOf 4 = 1 := by kernel_rfl
theorem kt55 : Try.prog.keyType 55 = true := by kernel_rfl
theorem tsz : ∃ m, Try.prog.types.size = m + 3 := ⟨Try.prog.types.size - 3, by have : 3 ≤ Try.prog.types.size := of_decide_eq_true (by kernel_rfl); omega⟩

/-- A state as a value. -/
abbrev stV (g : Nat) (s : ByteArray) (b : Bool) : Value := .agg #[.int .u32 g, .string s, .bool b]

theorem key55 (g : Nat) (hg : g < 4294967296) (s : ByteArray) (hs : s.size ≤ maxLen) (b : Bool) : ∃ l, keyOf Try.prog 55 (stV g s b) = some l := by
  obtain ⟨m, hm⟩ := tsz
  have hw : (Lit.int .u32 g).wf = true := by simp [Lit.wf, IntKind.min, IntKind.max, IntKind.signed, IntKind.bits]; omega
  unfold keyOf
  simp only [Try.underlying55]
  rw [if_pos (by simp [kt55, Value.formed, Try.underlying55, cells55]), hm]
  simp [Program.keyLits, Try.underlying55, Try.underlying50, Try.underlying53, Try.underlying9, Try.underlying4, cells55, cells50, cells53, cells9, cells4, Value.cells, hw, hs, List.mapM_cons]
  rw [if_pos (by intro i hi; match i, hi with | 0, _ => simp | 1, _ => simp)]
  exact ⟨_, rfl⟩

/-- The memo: each entry is a state that fails. -/
def Memo (F : Nat → ByteArray → Bool → Prop) (w : World) (b : Nat) : Prop :=
  ∃ es clock, w.heap[b]? = some (.map es clock) ∧ ∀ e ∈ es.toList, ∃ g s i, e.key = stV g s i ∧ g < 4294967296 ∧ s.size ≤ maxLen ∧ e.val = .bool true ∧ F g s i

theorem zero4 (w : World) : (zeroValue 4).run Try.prog w = .ok (.bool false) w := by kernel_rfl

theorem memo_look {F : Nat → ByteArray → Bool → Prop} {w : World} {b : Nat} (h : Memo F w b) (g : Nat) (hg : g < 4294967296) (s : ByteArray) (hs : s.size ≤ maxLen) (i : Bool) :
    ∃ r, (Instr.lookup 51 (.map (some b)) (stV g s i) false).run Try.prog w = .ok (.bool r) w ∧ (r = true → F g s i) := by
  obtain ⟨es, clock, hb, hE⟩ := h
  obtain ⟨l, hl⟩ := key55 g hg s hs i
  have hk : ∀ e ∈ es.toList, ∃ l, keyOf Try.prog 55 e.key = some l := fun e he => by
    obtain ⟨g', s', i', hk, hg', hs', _⟩ := hE e he
    rw [hk]; exact key55 g' hg' s' hs' i'
  have hc := law55.check w es.isEmpty hl
  rcases law55.find w hl es.toList hk with ⟨hf, _⟩ | ⟨j, e, hf, hj, hek⟩
  · refine ⟨false, ?_, fun h => by cases h⟩
    simp [Instr.lookup, run_underlying Try.underlying51, MapKept.run_getObj_map hb, hc, hf, Result.andThen]
  · obtain ⟨g', s', i', hk', _, _, hv, hF⟩ := hE e (List.mem_of_getElem? hj)
    refine ⟨true, ?_, fun _ => ?_⟩
    · simp [Instr.lookup, run_underlying Try.underlying51, MapKept.run_getObj_map hb, hc, hf, hv, Result.andThen]
    · rw [hk'] at hek
      simp only [stV, Value.agg.injEq, Array.mk.injEq, List.cons.injEq, Value.int.injEq, Value.string.injEq, Value.bool.injEq, and_true, true_and] at hek
      obtain ⟨h1, h2, h3⟩ := hek
      have h1' : g' = g := by omega
      rw [← h1', ← h2, ← h3]
      exact hF

theorem memo_put {F : Nat → ByteArray → Bool → Prop} {w : World} {b : Nat} (h : Memo F w b) (g : Nat) (hg : g < 4294967296) (s : ByteArray) (hs : s.size ≤ maxLen) (i : Bool) (hF : F g s i) :
    ∃ w', (Instr.mapUpdate 51 (.map (some b)) (stV g s i) (.bool true)).run Try.prog w = .ok () w' ∧ Memo F w' b ∧ w.grownBy w' (some b) := by
  obtain ⟨es, clock, hb, hE⟩ := h
  obtain ⟨l, hl⟩ := key55 g hg s hs i
  have hk : ∀ e ∈ es.toList, ∃ l, keyOf Try.prog 55 e.key = some l := fun e he => by
    obtain ⟨g', s', i', hk, hg', hs', _⟩ := hE e he
    rw [hk]; exact key55 g' hg' s' hs' i'
  have hc := law55.check w false hl
  rcases law55.find w hl es.toList hk with ⟨hf, _⟩ | ⟨j, e, hf, hj, hek⟩
  · refine ⟨setBlock w b (.map (es.push { key := stV g s i, val := .bool true, born := clock }) (clock + 1)), ?_, ⟨_, _, heap_setBlock_same hb _, fun e he => ?_⟩, ⟨rfl, rfl, rfl, by simp [setBlock], fun i _ hi => heap_setBlock_other hb _ (fun e => hi (by rw [e]))⟩⟩
    · simp [Instr.mapUpdate, run_underlying Try.underlying51, MapKept.run_getObj_map hb, hc, hf, MapKept.run_setObj_map _ hb, Result.andThen, setBlock]
    · simp at he
      rcases he with he | rfl
      · exact hE e (by simpa using he)
      · exact ⟨g, s, i, rfl, hg, hs, rfl, hF⟩
  · have hst := law55.stays w hl
    refine ⟨setBlock w b (.map (es.modify j fun e => { e with key := stV g s i, val := .bool true }) clock), ?_, ⟨_, _, heap_setBlock_same hb _, fun e' he => ?_⟩, ⟨rfl, rfl, rfl, by simp [setBlock], fun i _ hi => heap_setBlock_other hb _ (fun e => hi (by rw [e]))⟩⟩
    · have hj' : es[j]? = some e := by simpa using hj
      simp [Instr.mapUpdate, run_underlying Try.underlying51, MapKept.run_getObj_map hb, hc, hf, hj', hek, hst, MapKept.run_setObj_map _ hb, Result.andThen, setBlock]
    · obtain ⟨t, ht, rfl⟩ := List.mem_iff_getElem.1 he
      simp only [Array.getElem_toList, Array.getElem_modify]
      split
      · exact ⟨g, s, i, rfl, hg, hs, rfl, hF⟩
      · exact hE _ (by simp)
end Go.Proofs.Ytdblecmelmeibaa
