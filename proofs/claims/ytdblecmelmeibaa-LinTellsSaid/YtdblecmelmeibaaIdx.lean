/- The walks of the closure that seeks an answer, and of the library's IndexFunc over it. -/
import Derived.Test.YtdblecmelmeibaaShort
namespace Go.Proofs.Ytdblecmelmeibaa
open Go.RowKit Go.Maps Go.ChangeMaps
set_option maxHeartbeats 1000000
set_option maxRecDepth 100000

/-- An event. -/
structure PE where
  client : Int
  kind : Int
  okind : Int
  okey : ByteArray
  oval : ByteArray
  ohi : ByteArray
  olim : Int
  val : ByteArray
  found : Bool
  err : Int
  oA : Option Addr
  on : Nat
  oc : Nat
abbrev eC (e : PE) : List Value := [.int .i64 e.client, .int .i64 e.kind, .int .i64 e.okind, .string e.okey, .string e.oval, .string e.ohi, .int .i64 e.olim, .string e.val, .bool e.found, .int .i64 e.err, .slice e.oA e.on e.oc]
abbrev eV (e : PE) : Value := .agg #[.int .i64 e.client, .int .i64 e.kind, .int .i64 e.okind, .string e.okey, .string e.oval, .string e.ohi, .int .i64 e.olim, .string e.val, .bool e.found, .int .i64 e.err, .slice e.oA e.on e.oc]

/-- An event that lies at a place. -/
def EAt (w : World) (p : Addr) (x : PE) : Prop :=
  w.cell? p = some (.int .i64 x.client) ∧ w.cell? ⟨p.block, p.off + 1, none⟩ = some (.int .i64 x.kind) ∧ w.cell? ⟨p.block, p.off + 2, none⟩ = some (.int .i64 x.okind) ∧
    w.cell? ⟨p.block, p.off + 3, none⟩ = some (.string x.okey) ∧ w.cell? ⟨p.block, p.off + 4, none⟩ = some (.string x.oval) ∧ w.cell? ⟨p.block, p.off + 5, none⟩ = some (.string x.ohi) ∧
    w.cell? ⟨p.block, p.off + 6, none⟩ = some (.int .i64 x.olim) ∧ w.cell? ⟨p.block, p.off + 7, none⟩ = some (.string x.val) ∧ w.cell? ⟨p.block, p.off + 8, none⟩ = some (.bool x.found) ∧
    w.cell? ⟨p.block, p.off + 9, none⟩ = some (.int .i64 x.err) ∧ w.cell? ⟨p.block, p.off + 10, none⟩ = some (.slice x.oA x.on x.oc)
theorem EAt.kept {w w' : World} {p : Addr} {x : PE} (h : EAt w p x) (hk : w'.heap[p.block]? = w.heap[p.block]?) : EAt w' p x := by
  have e : ∀ q : Addr, q.block = p.block → w'.cell? q = w.cell? q := fun q hq => World.cell?_of_block (by rw [hq]; exact hk)
  obtain ⟨h0, h1, h2, h3, h4, h5, h6, h7, h8, h9, h10⟩ := h
  exact ⟨(e p rfl).trans h0, (e ⟨p.block, p.off + 1, none⟩ rfl).trans h1, (e ⟨p.block, p.off + 2, none⟩ rfl).trans h2, (e ⟨p.block, p.off + 3, none⟩ rfl).trans h3, (e ⟨p.block, p.off + 4, none⟩ rfl).trans h4, (e ⟨p.block, p.off + 5, none⟩ rfl).trans h5,
    (e ⟨p.block, p.off + 6, none⟩ rfl).trans h6, (e ⟨p.block, p.off + 7, none⟩ rfl).trans h7, (e ⟨p.block, p.off + 8, none⟩ rfl).trans h8, (e ⟨p.block, p.off + 9, none⟩ rfl).trans h9, (e ⟨p.block, p.off + 10, none⟩ rfl).trans h10⟩
/-- A slice that reads as these events. -/
def RE (w : World) (A : Option Addr) (n : Nat) (evs : List PE) : Prop :=
  evs.length = n ∧ (0 < n → ∃ ad, A = some ad ∧ ad.block < w.heap.size ∧ ∀ (i : Nat) (x : PE), evs[i]? = some x → EAt w (ad.add (i * 11)) x)
theorem RE.at_ {w : World} {A : Option Addr} {n : Nat} {evs : List PE} (h : RE w A n evs) {k : Nat} (hk : k < n) : ∃ ad x, A = some ad ∧ ad.block < w.heap.size ∧ evs[k]? = some x ∧ EAt w (ad.add (k * 11)) x := by
  obtain ⟨ad, e, hb, hc⟩ := h.2 (by omega)
  have hx : evs[k]? = some (evs[k]'(by rw [h.1]; exact hk)) := List.getElem?_eq_getElem _
  exact ⟨ad, _, e, hb, hx, hc k _ hx⟩
theorem RE.kept {w w' : World} {A : Option Addr} {n : Nat} {evs : List PE} (h : RE w A n evs) (hs : w.heap.size ≤ w'.heap.size) (hk : ∀ i, i < w.heap.size → w'.heap[i]? = w.heap[i]?) : RE w' A n evs :=
  ⟨h.1, fun h0 => by
    obtain ⟨ad, e, hb, hc⟩ := h.2 h0
    exact ⟨ad, e, by omega, fun i x hx => (hc i x hx).kept (by rw [block_of_add]; exact hk _ hb)⟩⟩
theorem RE.below {w w' : World} {A : Option Addr} {n : Nat} {evs : List PE} (h : RE w A n evs) (hb : Below w.heap.size w w') : RE w' A n evs :=
  h.kept hb.size (fun i hi => hb.block i hi)

/-- Is it the answer of this client? -/
def backs (cl : Int) (b : PE) : Bool := b.kind == 2 && b.client == cl

theorem back_any (b : PE) (cl : Int) (g : Nat) (w : World) (hc : w.cell? ⟨g, 0, none⟩ = some (.int .i64 cl)) (hg : g < w.heap.size) :
    Calls Try.prog 22 #[eV b, .pointer (some ⟨g, 0, none⟩)] w fun e w' => e = .returned (.bool (backs cl b)) ∧ Below w.heap.size w w' := by
  obtain ⟨client, kind, okind, okey, oval, ohi, olim, val, found, err, oA, on, oc⟩ := b
  unfold backs
  simp only
  cases h1 : (kind == 2)
  · go_enter Try.func22, Try.ntmps22
    go_wp2
    go_ret
    exact ⟨rfl, (Below.refl _ _).alloc (Nat.le_refl _) _⟩
  · go_enter Try.func22, Try.ntmps22
    go_wp2
    go_ret
    exact ⟨rfl, (Below.refl _ _).alloc (Nat.le_refl _) _⟩

/-- The place of the first answer. -/
def idxOf (evs : List PE) (cl : Int) : Int := if evs.findIdx (backs cl) < evs.length then (evs.findIdx (backs cl) : Int) else -1

theorem idx_any (A : Option Addr) (n c : Nat) (evs : List PE) (cl : Int) (g : Nat) (w : World) (h : RE w A n evs) (hn : n ≤ 1000000000) (hc : w.cell? ⟨g, 0, none⟩ = some (.int .i64 cl)) (hg : g < w.heap.size) :
    Calls Try.prog 21 #[.slice A n c, .func (.func 22) #[] #[.pointer (some ⟨g, 0, none⟩)]] w fun e w' => e = .returned (.int .i64 (idxOf evs cl)) ∧ Below w.heap.size w w' := by
  have HR := Lib.hid h
  have HG := Lib.hid hc
  clear h hc
  go_enter Try.func21, Try.ntmps21
  go_wp2
  go_loopw [8] (fun i wr => ∃ k : Nat, k ≤ n ∧ i = .int .i64 k ∧ Hid (∀ j x, j < k → evs[j]? = some x → backs cl x = false) ∧ Below w.heap.size w wr) (fun i _ => n - (intOf i).toNat)
  case atStart => exact ⟨0, by omega, rfl, Lib.hid (fun j x hj => by omega), Below.refl _ _⟩
  case round =>
    obtain ⟨k, hk, rfl, HF, hB⟩ := hrel
    by_cases hlt : k < n
    · obtain ⟨ad, x, rfl, hb, hx, hat⟩ := (HR.out.below hB).at_ hlt
      have HX := Lib.hid hx
      have HCL : Hid (wr.cell? ⟨g, 0, none⟩ = some (.int .i64 cl)) := Lib.hid ((hB.cell hg).trans HG.out)
      have HGS : Hid (g < wr.heap.size) := Lib.hid (by have := hB.size; omega)
      obtain ⟨h0, h1, h2, h3, h4, h5, h6, h7, h8, h9, h10⟩ := hat
      clear hx
      go_wp2_with fail
      refine (back_any x cl g _ HCL.out HGS.out).mono ?_
      cases hbk : backs cl x with
      | true =>
        rintro e w1 ⟨rfl, hb1⟩
        go_wp2
        go_ret
        refine ⟨?_, hB.next hb1⟩
        have hlt' : k < evs.length := by rw [HR.out.1]; exact hlt
        have hf : evs.findIdx (backs cl) = k := by
          have hx2 := HX.out
          rw [List.getElem?_eq_getElem hlt'] at hx2
          injection hx2 with hx2
          rw [List.findIdx_eq hlt']
          refine ⟨by rw [hx2]; exact hbk, fun j hj => ?_⟩
          exact HF.out j _ hj (List.getElem?_eq_getElem (by omega))
        show Ending.returned (.int .i64 (k : Int)) = _
        unfold idxOf
        rw [hf, if_pos hlt']
      | false =>
        rintro e w1 ⟨rfl, hb1⟩
        go_wp2
        refine ⟨⟨k + 1, by omega, by go_num, Lib.hid (fun j y hj hy => ?_), hB.next hb1⟩, by simp [intOf]; omega⟩
        by_cases hjk : j = k
        · subst hjk
          rw [HX.out] at hy
          injection hy with hy
          rw [← hy]; exact hbk
        · exact HF.out j y (by omega) hy
    · obtain rfl : k = n := by omega
      go_wp2
      go_ret
      refine ⟨?_, hB⟩
      have hf : evs.findIdx (backs cl) = evs.length := by
        rw [List.findIdx_eq_length]
        intro x hx
        obtain ⟨j, hj, rfl⟩ := List.mem_iff_getElem.1 hx
        have := HF.out j _ (by rw [← HR.out.1]; exact hj) (List.getElem?_eq_getElem hj)
        simpa using this
      show Ending.returned (.int .i64 (-1)) = _
      unfold idxOf
      rw [hf, if_neg (by omega)]
end Go.Proofs.Ytdblecmelmeibaa
