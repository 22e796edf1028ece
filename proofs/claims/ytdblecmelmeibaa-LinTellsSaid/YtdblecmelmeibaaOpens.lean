/- What is told of the statements' arguments: acts, events, turns. -/
import Derived.Test.YtdblecmelmeibaaLeaves
import Derived.Test.YtdblecmelmeibaaAwake
namespace Go.Proofs.Ytdblecmelmeibaa
open Go.ChangeShapes Go.WideShapes Go.RowKit

theorem leaves37 : leaves Try.prog 4 37 = some [.int .i64, .int .i64, .int .i64, .str, .bool, .bool] := by rfl
theorem leaves48 : leaves Try.prog 4 48 = some [.int .i64, .int .i64, .int .i64, .str, .str, .str, .int .i64, .str, .bool, .int .i64, .sl] := by rfl
theorem leaves33 : leaves Try.prog 4 33 = some [.int .u8, .str, .int .u8, .bool] := by rfl
theorem cells37 : Try.prog.cellsOf 37 = 6 := by kernel_rfl
theorem cells48 : Try.prog.cellsOf 48 = 11 := by kernel_rfl
theorem cells33 : Try.prog.cellsOf 33 = 4 := by kernel_rfl

/-- An act whose parts fit. -/
def AWf (x : PA) : Prop := (Lit.int .i64 x.fr).wf = true ∧ (Lit.int .i64 x.to).wf = true ∧ (Lit.int .i64 x.kind).wf = true ∧ x.val.size ≤ maxLen
theorem act_of {cs : List Value} (h : LOk [.int .i64, .int .i64, .int .i64, .str, .bool, .bool] cs) : ∃ x : PA, cs = [.int .i64 x.fr, .int .i64 x.to, .int .i64 x.kind, .string x.val, .bool x.found, .bool x.sure] ∧ AWf x := by
  obtain ⟨hl, h⟩ := h
  match cs, hl with
  | [c0, c1, c2, c3, c4, c5], _ =>
    obtain ⟨n0, rfl, w0⟩ := h 0 _ _ rfl rfl
    obtain ⟨n1, rfl, w1⟩ := h 1 _ _ rfl rfl
    obtain ⟨n2, rfl, w2⟩ := h 2 _ _ rfl rfl
    obtain ⟨n3, rfl, w3⟩ := h 3 _ _ rfl rfl
    obtain ⟨n4, rfl⟩ := h 4 _ _ rfl rfl
    obtain ⟨n5, rfl⟩ := h 5 _ _ rfl rfl
    exact ⟨⟨n0, n1, n2, n3, n4, n5⟩, rfl, w0, w1, w2, w3⟩
theorem ev_of {cs : List Value} (h : LOk [.int .i64, .int .i64, .int .i64, .str, .str, .str, .int .i64, .str, .bool, .int .i64, .sl] cs) : ∃ e : PE, cs = eC e := by
  obtain ⟨hl, h⟩ := h
  match cs, hl with
  | [c0, c1, c2, c3, c4, c5, c6, c7, c8, c9, c10], _ =>
    obtain ⟨n0, rfl, w0⟩ := h 0 _ _ rfl rfl
    obtain ⟨n1, rfl, w1⟩ := h 1 _ _ rfl rfl
    obtain ⟨n2, rfl, w2⟩ := h 2 _ _ rfl rfl
    obtain ⟨n3, rfl, w3⟩ := h 3 _ _ rfl rfl
    obtain ⟨n4, rfl, w4⟩ := h 4 _ _ rfl rfl
    obtain ⟨n5, rfl, w5⟩ := h 5 _ _ rfl rfl
    obtain ⟨n6, rfl, w6⟩ := h 6 _ _ rfl rfl
    obtain ⟨n7, rfl, w7⟩ := h 7 _ _ rfl rfl
    obtain ⟨n8, rfl⟩ := h 8 _ _ rfl rfl
    obtain ⟨n9, rfl, w9⟩ := h 9 _ _ rfl rfl
    obtain ⟨A, m, c, rfl, w10⟩ := h 10 _ _ rfl rfl
    exact ⟨⟨n0, n1, n2, n3, n4, n5, n6, n7, n8, n9, A, m, c⟩, rfl⟩
theorem turn_of {cs : List Value} (h : LOk [.int .u8, .str, .int .u8, .bool] cs) : ∃ t : PT, cs = [.int .u8 t.kind, .string t.val, .int .u8 t.long, .bool t.sure] ∧ t.kind < 256 ∧ t.long < 256 := by
  obtain ⟨hl, h⟩ := h
  match cs, hl with
  | [c0, c1, c2, c3], _ =>
    obtain ⟨n0, rfl, w0⟩ := h 0 _ _ rfl rfl
    obtain ⟨n1, rfl, w1⟩ := h 1 _ _ rfl rfl
    obtain ⟨n2, rfl, w2⟩ := h 2 _ _ rfl rfl
    obtain ⟨n3, rfl⟩ := h 3 _ _ rfl rfl
    have b0 : 0 ≤ n0 ∧ n0 ≤ 255 := by simpa [Lit.wf, IntKind.min, IntKind.max, IntKind.signed, IntKind.bits] using w0
    have b2 : 0 ≤ n2 ∧ n2 ≤ 255 := by simpa [Lit.wf, IntKind.min, IntKind.max, IntKind.signed, IntKind.bits] using w2
    refine ⟨⟨n0.toNat, n1, n2.toNat, n3⟩, ?_, by simp; omega, by simp; omega⟩
    simp only
    rw [Int.toNat_of_nonneg b0.1, Int.toNat_of_nonneg b2.1]

theorem field_of (p : Addr) (j : Nat) (h : 0 < j) : p.add j = ⟨p.block, p.off + j, none⟩ := by unfold Addr.add; rw [if_neg (by omega)]
theorem zero_of (p : Addr) : p.add 0 = p := by unfold Addr.add; simp

section
variable {H : Type} {enc : TypeId × Value → H} {w : World} {base : Nat} {spare : Nat → Bool} {held : Bool} {r : Reach} {b0 : Nat} {v : Value} {d : DataW H} {p : List MemPlace}
theorem open_acts (hv : Value.okWide Try.prog w r b0 22 v) (h : DataW.Trod enc Try.prog w base spare held 22 v d p) :
    ∃ A n c acts, v = .slice A n c ∧ n ≤ c ∧ c ≤ maxLen ∧ RA w A n acts ∧ ∀ x ∈ acts, AWf x := by
  obtain ⟨A, n, c, rfl, hnc, hcm, hr⟩ := open_rows Try.underlying22 cells37 leaves37 (by decide) hv h
  rcases Nat.eq_zero_or_pos n with rfl | h0
  · exact ⟨A, 0, c, [], rfl, hnc, hcm, RA.nil_ _ _, fun x hx => by simp at hx⟩
  · obtain ⟨ad, rfl, hb, hi⟩ := hr h0
    obtain ⟨acts, hl, ha⟩ := list_of (Q := fun i (x : PA) => At w (ad.add (i * 6)) x ∧ AWf x) n (fun i hin => by
      obtain ⟨cs, hok, _, hc⟩ := hi i hin
      obtain ⟨x, rfl, hw⟩ := act_of hok
      refine ⟨x, ⟨?_, ?_, ?_, ?_, ?_, ?_⟩, hw⟩
      · have := hc 0 _ rfl; rwa [Nat.add_zero] at this
      · have := hc 1 _ rfl; rwa [← add_of_add, field_of _ 1 (by omega)] at this
      · have := hc 2 _ rfl; rwa [← add_of_add, field_of _ 2 (by omega)] at this
      · have := hc 3 _ rfl; rwa [← add_of_add, field_of _ 3 (by omega)] at this
      · have := hc 4 _ rfl; rwa [← add_of_add, field_of _ 4 (by omega)] at this
      · have := hc 5 _ rfl; rwa [← add_of_add, field_of _ 5 (by omega)] at this)
    refine ⟨_, n, c, acts, rfl, hnc, hcm, ⟨hl, fun _ => ⟨ad, rfl, hb, fun i x hx => (ha i x hx).1⟩⟩, fun x hx => ?_⟩
    obtain ⟨i, hi, rfl⟩ := List.mem_iff_getElem.1 hx
    exact (ha i _ (List.getElem?_eq_getElem hi)).2
theorem open_evs (hv : Value.okWide Try.prog w r b0 23 v) (h : DataW.Trod enc Try.prog w base spare held 23 v d p) :
    ∃ A n c evs, v = .slice A n c ∧ n ≤ c ∧ c ≤ maxLen ∧ RE w A n evs := by
  obtain ⟨A, n, c, rfl, hnc, hcm, hr⟩ := open_rows Try.underlying23 cells48 leaves48 (by decide) hv h
  rcases Nat.eq_zero_or_pos n with rfl | h0
  · exact ⟨A, 0, c, [], rfl, hnc, hcm, rfl, fun h => absurd h (by omega)⟩
  · obtain ⟨ad, rfl, hb, hi⟩ := hr h0
    obtain ⟨evs, hl, ha⟩ := list_of (Q := fun i (x : PE) => EAt w (ad.add (i * 11)) x) n (fun i hin => by
      obtain ⟨cs, hok, _, hc⟩ := hi i hin
      obtain ⟨x, rfl⟩ := ev_of hok
      refine ⟨x, ?_, ?_, ?_, ?_, ?_, ?_, ?_, ?_, ?_, ?_, ?_⟩
      · have := hc 0 _ rfl; rwa [Nat.add_zero] at this
      · have := hc 1 _ rfl; rwa [← add_of_add, field_of _ 1 (by omega)] at this
      · have := hc 2 _ rfl; rwa [← add_of_add, field_of _ 2 (by omega)] at this
      · have := hc 3 _ rfl; rwa [← add_of_add, field_of _ 3 (by omega)] at this
      · have := hc 4 _ rfl; rwa [← add_of_add, field_of _ 4 (by omega)] at this
      · have := hc 5 _ rfl; rwa [← add_of_add, field_of _ 5 (by omega)] at this
      · have := hc 6 _ rfl; rwa [← add_of_add, field_of _ 6 (by omega)] at this
      · have := hc 7 _ rfl; rwa [← add_of_add, field_of _ 7 (by omega)] at this
      · have := hc 8 _ rfl; rwa [← add_of_add, field_of _ 8 (by omega)] at this
      · have := hc 9 _ rfl; rwa [← add_of_add, field_of _ 9 (by omega)] at this
      · have := hc 10 _ rfl; rwa [← add_of_add, field_of _ 10 (by omega)] at this)
    exact ⟨_, n, c, evs, rfl, hnc, hcm, hl, fun _ => ⟨ad, rfl, hb, fun i x hx => ha i x hx⟩⟩
/-- A slice that reads as these turns. -/
def RT (w : World) (A : Option Addr) (n : Nat) (ts : List PT) : Prop :=
  ts.length = n ∧ (0 < n → ∃ ad, A = some ad ∧ ad.block < w.heap.size ∧ ∀ (i : Nat) (t : PT), ts[i]? = some t → w.cell? (ad.add (i * 4)) = some (.int .u8 t.kind) ∧
    w.cell? ⟨(ad.add (i * 4)).block, (ad.add (i * 4)).off + 1, none⟩ = some (.string t.val) ∧ w.cell? ⟨(ad.add (i * 4)).block, (ad.add (i * 4)).off + 2, none⟩ = some (.int .u8 t.long) ∧
    w.cell? ⟨(ad.add (i * 4)).block, (ad.add (i * 4)).off + 3, none⟩ = some (.bool t.sure) ∧ t.kind < 256 ∧ t.long < 256)
theorem open_turns (hv : Value.okWide Try.prog w r b0 31 v) (h : DataW.Trod enc Try.prog w base spare held 31 v d p) :
    ∃ A n c ts, v = .slice A n c ∧ n ≤ c ∧ c ≤ maxLen ∧ RT w A n ts := by
  obtain ⟨A, n, c, rfl, hnc, hcm, hr⟩ := open_rows Try.underlying31 cells33 leaves33 (by decide) hv h
  rcases Nat.eq_zero_or_pos n with rfl | h0
  · exact ⟨A, 0, c, [], rfl, hnc, hcm, rfl, fun h => absurd h (by omega)⟩
  · obtain ⟨ad, rfl, hb, hi⟩ := hr h0
    obtain ⟨ts, hl, ha⟩ := list_of (Q := fun i (t : PT) => w.cell? (ad.add (i * 4)) = some (.int .u8 t.kind) ∧
        w.cell? ⟨(ad.add (i * 4)).block, (ad.add (i * 4)).off + 1, none⟩ = some (.string t.val) ∧ w.cell? ⟨(ad.add (i * 4)).block, (ad.add (i * 4)).off + 2, none⟩ = some (.int .u8 t.long) ∧
        w.cell? ⟨(ad.add (i * 4)).block, (ad.add (i * 4)).off + 3, none⟩ = some (.bool t.sure) ∧ t.kind < 256 ∧ t.long < 256) n (fun i hin => by
      obtain ⟨cs, hok, _, hc⟩ := hi i hin
      obtain ⟨x, rfl, k1, k2⟩ := turn_of hok
      refine ⟨x, ?_, ?_, ?_, ?_, k1, k2⟩
      · have := hc 0 _ rfl; rwa [Nat.add_zero] at this
      · have := hc 1 _ rfl; rwa [← add_of_add, field_of _ 1 (by omega)] at this
      · have := hc 2 _ rfl; rwa [← add_of_add, field_of _ 2 (by omega)] at this
      · have := hc 3 _ rfl; rwa [← add_of_add, field_of _ 3 (by omega)] at this)
    exact ⟨_, n, c, ts, rfl, hnc, hcm, hl, fun _ => ⟨ad, rfl, hb, fun i x hx => ha i x hx⟩⟩
theorem open_act (hv : Value.okWide Try.prog w r b0 37 v) (h : DataW.Trod enc Try.prog w base spare held 37 v d p) : ∃ x : PA, v = aV x ∧ AWf x := by
  obtain ⟨cs, rfl, hsz⟩ := okWide_struct Try.underlying37 hv
  obtain ⟨fuel, hf⟩ := h
  obtain ⟨x, hx, hw⟩ := act_of (trod_leaves _ _ _ _ _ _ leaves37 hf)
  refine ⟨x, ?_, hw⟩
  have : cs = (Value.agg cs).cells := by rfl
  obtain ⟨l⟩ := cs
  simp [Value.cells] at hx
  rw [hx]
end
end Go.Proofs.Ytdblecmelmeibaa
