/- The walk of lin's Acts. -/
import Derived.Test.YtdblecmelmeibaaIdx
import Derived.RegionTactic
import Derived.BigRegion
namespace Go.Proofs.Ytdblecmelmeibaa
open Go.RowKit Go.Maps Go.ChangeMaps
set_option maxHeartbeats 1000000
set_option maxRecDepth 100000

/-- Is an event a call that asks for the key? -/
def asks (key : ByteArray) (e : PE) : Bool := (e.kind == 1) && ((e.okey.toList == key.toList) && (decide (1 ≤ e.okind) && decide (e.okind ≤ 3)))
/-- What is told of an event: an act, if it is a call of the key's that has no error. -/
def actOf (evs : List PE) (key : ByteArray) (i : Nat) (e : PE) : Option PA :=
  if asks key e = true then
    match (evs.drop (i + 1))[(evs.drop (i + 1)).findIdx (backs e.client)]? with
    | some b => if b.err = 0 then some ⟨i, ((i + 1 + (evs.drop (i + 1)).findIdx (backs e.client) : Nat) : Int), e.okind, if e.okind = 1 then e.oval else b.val, b.found, true⟩ else none
    | none => some ⟨i, evs.length, e.okind, if e.okind = 1 then e.oval else ⟨#[]⟩, false, false⟩
  else none
def actsTo (evs : List PE) (key : ByteArray) : Nat → List PA
  | 0 => []
  | n + 1 => actsTo evs key n ++ (match evs[n]? with | some e => (actOf evs key n e).toList | none => [])
theorem acts_step {evs : List PE} {key : ByteArray} {k : Nat} {e : PE} (h : evs[k]? = some e) : actsTo evs key (k + 1) = actsTo evs key k ++ (actOf evs key k e).toList := by rw [actsTo, h]
theorem acts_len (evs : List PE) (key : ByteArray) : ∀ n, (actsTo evs key n).length ≤ n
  | 0 => by simp [actsTo]
  | n + 1 => by
    have := acts_len evs key n
    rw [actsTo, List.length_append]
    split
    · cases actOf evs key n ‹PE› <;> simp <;> omega
    · simp; omega

/-- The cells of acts. -/
def aCs (l : List PA) : List Value := l.flatMap fun x => [.int .i64 x.fr, .int .i64 x.to, .int .i64 x.kind, .string x.val, .bool x.found, .bool x.sure]
theorem aCs_len : ∀ l : List PA, (aCs l).length = l.length * 6
  | [] => rfl
  | x :: l => by
    have := aCs_len l
    simp only [aCs, List.flatMap_cons, List.length_append, List.length_cons, List.length_nil] at this ⊢
    omega
theorem aCs_append (a b : List PA) : aCs (a ++ b) = aCs a ++ aCs b := by simp [aCs]
theorem aCs_at : ∀ (l : List PA) (i j : Nat) (x : PA), l[i]? = some x → j < 6 → (aCs l)[i * 6 + j]? = ([.int .i64 x.fr, .int .i64 x.to, .int .i64 x.kind, .string x.val, .bool x.found, .bool x.sure] : List Value)[j]?
  | [], i, j, x, h, _ => by simp at h
  | y :: l, 0, j, x, h, hj => by
    simp at h
    subst h
    simp only [aCs, List.flatMap_cons]
    rw [List.getElem?_append_left (by simp; omega)]
    simp
  | y :: l, i + 1, j, x, h, hj => by
    have ih := aCs_at l i j x (by simpa using h) hj
    have e : aCs (y :: l) = [.int .i64 y.fr, .int .i64 y.to, .int .i64 y.kind, .string y.val, .bool y.found, .bool y.sure] ++ aCs l := by simp [aCs]
    rw [e, List.getElem?_append_right (by simp; omega), ← ih]
    congr 1
    simp
    omega
theorem aCs_one (l : List PA) : ∀ u ∈ aCs l, u.oneCell' = true := by
  intro u hu
  simp only [aCs, List.mem_flatMap] at hu
  obtain ⟨x, _, hx⟩ := hu
  simp at hx
  rcases hx with rfl | rfl | rfl | rfl | rfl | rfl <;> rfl
theorem own_acts {w : World} {base : Nat} {v : Value} {l : List PA} (h : w.ownsRow base 37 6 v l.length (aCs l)) : ∃ A c, v = .slice A l.length c ∧ l.length ≤ c ∧ RA w A l.length l := by
  obtain ⟨hl, ⟨rfl, h0⟩ | ⟨g, cap, cur, rfl, hb, hh, hc, hm, hs, ht⟩⟩ := h
  · rw [h0]
    exact ⟨none, 0, rfl, Nat.le_refl _, by have := List.eq_nil_of_length_eq_zero h0; subst this; rfl, fun h => absurd h (by omega)⟩
  · refine ⟨_, _, rfl, hc, rfl, fun h0 => ⟨_, rfl, heap_lt hh, fun i x hx => ?_⟩⟩
    have hi : i < l.length := (List.getElem?_eq_some_iff.1 hx).1
    have hce : ∀ j, j < 6 → w.cell? ⟨g, i * 6 + j, none⟩ = ([.int .i64 x.fr, .int .i64 x.to, .int .i64 x.kind, .string x.val, .bool x.found, .bool x.sure] : List Value)[j]? := by
      intro j hj
      rw [cell_of_row w g _ cur 37 (0, 0) hh, ← aCs_at l i j x hx hj, ← ht, List.getElem?_take, if_pos (by omega)]
      simp
    have ea : (⟨g, 0, none⟩ : Addr).add (i * 6) = ⟨g, i * 6, none⟩ := by unfold Addr.add; split <;> simp_all
    rw [ea]
    exact ⟨hce 0 (by omega), hce 1 (by omega), hce 2 (by omega), hce 3 (by omega), hce 4 (by omega), hce 5 (by omega)⟩

theorem RE.cutA {w : World} {ad : Addr} {n k : Nat} {evs : List PE} (h : RE w (some ad) n evs) (hk : k ≤ n) : RE w (some (ad.add (k * 11))) (n - k) (evs.drop k) := by
  refine ⟨by rw [List.length_drop, h.1], fun h0 => ?_⟩
  obtain ⟨ad', he, hb, hc⟩ := h.2 (by omega)
  injection he with he
  subst he
  refine ⟨_, rfl, by rw [block_of_add]; exact hb, fun i x hx => ?_⟩
  rw [add_of_add]
  have := hc (k + i) x (by rw [← hx, List.getElem?_drop])
  rwa [show (k + i) * 11 = k * 11 + i * 11 from by omega] at this
theorem RE.cutB {w : World} {A : Option Addr} {n k : Nat} {evs : List PE} (h : RE w A n evs) (hk : n ≤ k) : RE w A (n - k) (evs.drop k) := by
  refine ⟨by rw [List.length_drop, h.1], fun h0 => by omega⟩
theorem idx_none {evs : List PE} {cl : Int} (h : ¬ evs.findIdx (backs cl) < evs.length) : idxOf evs cl = -1 := by unfold idxOf; rw [if_neg h]
theorem idx_some {evs : List PE} {cl : Int} (h : evs.findIdx (backs cl) < evs.length) : idxOf evs cl = (evs.findIdx (backs cl) : Int) := by unfold idxOf; rw [if_pos h]

theorem own_below {w w' : World} {base e size n : Nat} {v : Value} {xs : List Value} (h : w.ownsRow base e size v n xs) (hb : Below w.heap.size w w') : w'.ownsRow base e size v n xs :=
  h.kept (below_grown hb none) (Decidable.em _)
theorem own_ge {w : World} {base e size n : Nat} {v : Value} {xs : List Value} (h : w.ownsRow base e size v n xs) {k : Nat} (hk : v.ownBlock = some k) : base ≤ k := (h.lt k hk).1
theorem lit37 (w : World) (x : PA) (g : Nat) (hg : w.heap.size = g) : Reads (w.alloc (.cells #[.int .i64 x.fr, .int .i64 x.to, .int .i64 x.kind, .string x.val, .bool x.found, .bool x.sure] 37)) (w.alloc (.cells #[.int .i64 x.fr, .int .i64 x.to, .int .i64 x.kind, .string x.val, .bool x.found, .bool x.sure] 37)).heap.size 6 (some ⟨g, 0, none⟩) 1 (aCs [x]) := by
  subst hg
  exact Reads.of_own (World.ownsRow_lit (base := w.heap.size) (e := 37) (size := 6) w #[.int .i64 x.fr, .int .i64 x.to, .int .i64 x.kind, .string x.val, .bool x.found, .bool x.sure] 1 (Nat.le_refl _) (by simp [maxLen]) rfl)
theorem own_set {w : World} {base e size n : Nat} {v : Value} {xs : List Value} (h : w.ownsRow base e size v n xs) (p : Addr) (u : Value) (hp : ∀ g, v.ownBlock = some g → g ≠ p.block) : (w.setCell p u).ownsRow base e size v n xs :=
  h.kept (row := some p.block) ⟨rfl, rfl, rfl, by simp, fun i _ hi => Below.heap_setCell w p u i (fun e => hi (by rw [e]))⟩ (by
    rcases hv : v.ownBlock with _ | g
    · exact .inl rfl
    · exact .inr (fun e => by injection e with e; exact hp g hv e))

theorem info37 : (Try.prog.info? 37).map (fun i => (i.zero, i.size, i.bytes)) = some (some (.agg #[.int .i64 0, .int .i64 0, .int .i64 0, .string ⟨#[]⟩, .bool false, .bool false]), 6, 48) := by kernel_rfl

/-- The row that Acts hands back is the call's own. -/
def ActsOwn (acts : List PA) (w : World) (e : Ending) (w' : World) : Prop := ∃ v, e = .returned v ∧ w'.ownsRow w.heap.size 37 6 v acts.length (aCs acts) ∧ Below w.heap.size w w'
def ActsPost (acts : List PA) (w : World) (e : Ending) (w' : World) : Prop := ∃ A c, e = .returned (.slice A acts.length c) ∧ acts.length ≤ c ∧ RA w' A acts.length acts ∧ Below w.heap.size w w'

set_option maxHeartbeats 16000000 in
theorem acts_own (A : Option Addr) (n c : Nat) (evs : List PE) (key : ByteArray) (w : World) (h : RE w A n evs) (hn : n ≤ 1000000000) (hc : n ≤ c) :
    Calls Try.prog 14 #[.slice A n c, .string key] w (ActsOwn (actsTo evs key n) w) := by
  have HR := Lib.hid h
  clear h
  have HL : Hid (n ≤ 1000000000) := Lib.hid hn
  obtain ⟨i0, hi, hz0, hz1, hz2⟩ := info_parts info37
  go_enter Try.func14, Try.ntmps14
  go_wp2
  go_loopw [4, 12] (fun v i wr => ∃ k : Nat, k ≤ n ∧ i = .int .i64 k ∧ Hid (wr.ownsRow w.heap.size 37 6 v (actsTo evs key k).length (aCs (actsTo evs key k))) ∧ Below w.heap.size w wr) (fun _ i _ => n - (intOf i).toNat)
  case atStart => exact ⟨0, by omega, rfl, Lib.hid ⟨by simp [aCs_len], .inl ⟨rfl, rfl⟩⟩, Below.refl _ _⟩
  case round =>
    obtain ⟨k, hk, rfl, HO, hB⟩ := hrel
    by_cases hlt : k < n
    · obtain ⟨ad, e, rfl, hb, hx, hat⟩ := (HR.out.below hB).at_ hlt
      have HX := Lib.hid hx
      have HST : Hid (actsTo evs key (k + 1) = actsTo evs key k ++ (actOf evs key k e).toList) := Lib.hid (acts_step hx)
      obtain ⟨h0, h1, h2, h3, h4, h5, h6, h7, h8, h9, h10⟩ := hat
      clear hx
      obtain ⟨wo, rfl⟩ : ∃ wo : World, wo = wr := ⟨_, rfl⟩
      by_cases hq : asks key e = true
      · unfold asks at hq
        simp only [Bool.and_eq_true, decide_eq_true_eq] at hq
        obtain ⟨q1, q2, q3, q4⟩ := hq
        have q3' : decide (e.okind < 1) = false := by simp; omega
        have q4' : decide (3 < e.okind) = false := by simp; omega
        have q1' : (e.kind != 1) = false := by simpa using q1
        have q2' : (e.okey.toList != key.toList) = false := by simpa using q2
        have HASK : Hid (asks key e = true) := Lib.hid (by unfold asks; simp [q1, q3, q4]; simpa using q2)
        by_cases hj : (evs.drop (k + 1)).findIdx (backs e.client) < (evs.drop (k + 1)).length
        · have HI := Lib.hid (idx_some hj)
          obtain ⟨j, HJ⟩ : ∃ j, Hid ((evs.drop (k + 1)).findIdx (backs e.client) = j) := ⟨_, Lib.hid rfl⟩
          have hjn : k + 1 + j < n := by have := HJ.out; have := HR.out.1; rw [List.length_drop] at hj; omega
          obtain ⟨_, b, he, _, hxb, hatb⟩ := (HR.out.below hB).at_ hjn
          obtain rfl : ad = _ := by injection he
          have HAO : Hid (actOf evs key k e = if b.err = 0 then some ⟨k, ((k + 1 + j : Nat) : Int), e.okind, if e.okind = 1 then e.oval else b.val, b.found, true⟩ else none) := Lib.hid (by
            unfold actOf
            rw [if_pos HASK.out, List.getElem?_drop, HJ.out, hxb])
          rw [HJ.out] at HI
          clear hj q1 q2 he hxb
          have q2p : e.okey.toList = key.toList := by simpa using q2'
          have hck : k + 1 < c := by omega
          go_wp2_with fail
          refine (idx_any _ (n - (k + 1)) _ (evs.drop (k + 1)) e.client wo.heap.size _ (by first | exact RE.below (RE.below (RE.below (RE.cutA HR.out (by omega)) hB) ((Below.refl _ _).alloc (Nat.le_refl _) _)) ((Below.refl _ _).alloc (Nat.le_refl _) _) | exact RE.cutB (RE.below (RE.below (RE.below HR.out hB) ((Below.refl _ _).alloc (Nat.le_refl _) _)) ((Below.refl _ _).alloc (Nat.le_refl _) _)) (by omega)) (by omega) (by go_simp) (by simp; omega)).mono ?_
          rw [HI.out]
          rintro en w1 ⟨rfl, hb1⟩
          have hbE : w1.heap[wo.heap.size]? = some (.cells #[.int .i64 e.client, .int .i64 e.kind, .int .i64 e.okind, .string e.okey, .string e.oval, .string e.ohi, .int .i64 e.olim, .string e.val, .bool e.found, .int .i64 e.err, .slice e.oA e.on e.oc] 48 (0, 0)) := (hb1.block _ (by simp; omega)).trans ((Below.heap_alloc _ _ _ (by simp)).trans (heap_alloc_new _ _))
          have hbX : w1.heap[wo.heap.size + 1]? = some (.cells #[.int .i64 k, .int .i64 n, .int .i64 e.okind, .string ⟨#[]⟩, .bool false, .bool false] 37 (0, 0)) := (hb1.block _ (by simp)).trans (at_new _ _ _ (by simp))
          have hBx : Below w.heap.size w w1 := ((hB.alloc hB.size _).alloc (by have := hB.size; simp; omega) _).next hb1
          have hzE : wo.heap.size + 1 < w1.heap.size := heap_lt hbX
          have hzW : w.heap.size ≤ wo.heap.size := hB.size
          have e2 : w1.cell? ⟨wo.heap.size, 2, none⟩ = some (.int .i64 e.okind) := by rw [cell_of_row _ _ _ _ _ _ hbE]; rfl
          have e4 : w1.cell? ⟨wo.heap.size, 4, none⟩ = some (.string e.oval) := by rw [cell_of_row _ _ _ _ _ _ hbE]; rfl
          have x0 : w1.cell? ⟨wo.heap.size + 1, 0, none⟩ = some (.int .i64 k) := by rw [cell_of_row _ _ _ _ _ _ hbX]; rfl
          have x1 : w1.cell? ⟨wo.heap.size + 1, 1, none⟩ = some (.int .i64 n) := by rw [cell_of_row _ _ _ _ _ _ hbX]; rfl
          have x2 : w1.cell? ⟨wo.heap.size + 1, 2, none⟩ = some (.int .i64 e.okind) := by rw [cell_of_row _ _ _ _ _ _ hbX]; rfl
          have x3 : w1.cell? ⟨wo.heap.size + 1, 3, none⟩ = some (.string ⟨#[]⟩) := by rw [cell_of_row _ _ _ _ _ _ hbX]; rfl
          have x4 : w1.cell? ⟨wo.heap.size + 1, 4, none⟩ = some (.bool false) := by rw [cell_of_row _ _ _ _ _ _ hbX]; rfl
          have x5 : w1.cell? ⟨wo.heap.size + 1, 5, none⟩ = some (.bool false) := by rw [cell_of_row _ _ _ _ _ _ hbX]; rfl
          have f1 : ∀ o, w1.frozen? ⟨wo.heap.size + 1, o, none⟩ = false := fun o => frozen_of_row _ _ _ _ _ hbX
          have HOX := Lib.hid (own_below ((HO.out.alloc (.cells #[.int .i64 e.client, .int .i64 e.kind, .int .i64 e.okind, .string e.okey, .string e.oval, .string e.ohi, .int .i64 e.olim, .string e.val, .bool e.found, .int .i64 e.err, .slice e.oA e.on e.oc] 48)).alloc (.cells #[.int .i64 k, .int .i64 n, .int .i64 e.okind, .string ⟨#[]⟩, .bool false, .bool false] 37)) hb1)
          have HBE := Lib.hid hbE
          have HBX := Lib.hid hbX
          have HNE : Hid (∀ g, Value.ownBlock u4 = some g → g < wo.heap.size) := Lib.hid (fun g hg => (HO.out.lt g hg).2)
          have HNX : Hid (∀ g, Value.ownBlock u4 = some g → g ≠ wo.heap.size + 1) := Lib.hid (fun g hg => by have := HNE.out g hg; omega)
          have HLL := Lib.hid (acts_len evs key k)
          obtain ⟨b0, b1, b2, b3, b4, b5, b6, b7, b8, b9, b10⟩ := hatb.kept (w' := w1) (by rw [block_of_add]; exact (hb1.block _ (by first | omega | (simp; omega))).trans ((Below.heap_alloc _ _ _ (by first | omega | (simp; omega))).trans (Below.heap_alloc _ _ _ hb)))
          clear hbE hbX hatb
          cases hbe : (b.err == 0)
          · have hbe' : (b.err != 0) = true := by simpa using hbe
            go_wp2_with fail
            refine ⟨⟨k + 1, by omega, by go_num, ?_, (by repeat' (first | (with_reducible exact hBx) | (with_reducible refine Below.drew ?_) | refine Below.setCell ?_ (by show w.heap.size ≤ wo.heap.size + 1; omega) _ | refine Below.alloc ?_ (by first | omega | (simp; omega)) _))⟩, by simp [intOf]; omega⟩
            have e1 : (b.err = 0) = False := by simpa using hbe
            rw [HST.out, HAO.out]
            simp only [e1, if_false, Option.toList_none, List.append_nil]
            exact Lib.hid (by repeat' (first | (with_reducible exact HOX.out) | (with_reducible refine World.ownsRow.drew ?_) | (with_reducible refine World.ownsRow.alloc ?_ _) | refine own_set ?_ _ _ (fun g hg => by have := HNE.out g hg; show g ≠ wo.heap.size + 1; omega)))
          · have hbe' : (b.err != 0) = false := by simpa using hbe
            have HAO2 : Hid (actOf evs key k e = some ⟨k, ((k : Int) + 1 + j), e.okind, if e.okind = 1 then e.oval else b.val, b.found, true⟩) := Lib.hid (by
              have e1 : (b.err = 0) = True := by simpa using hbe
              rw [HAO.out]
              simp only [e1, if_true]
              simp)
            clear HAO
            have HAO := HAO2
            clear HAO2
            go_wp2_with fail
            go_region
            try simp only [Exit.then]
            generalize HW2 : World.drew _ = W2
            have hX2 : Blk W2 (wo.heap.size + 1) 37 #[.int .i64 k, .int .i64 ((k : Int) + 1 + j), .int .i64 e.okind, .string b.val, .bool b.found, .bool true] := by
              have B0 : Blk w1 (wo.heap.size + 1) 37 #[.int .i64 k, .int .i64 n, .int .i64 e.okind, .string ⟨#[]⟩, .bool false, .bool false] := HBX.out
              have B1 := B0.set_ 1 (.int .i64 ((k : Int) + 1 + j))
              have B2 := B1.set_ 5 (.bool true)
              have B3 := B2.set_ 4 (.bool b.found)
              have B4 := B3.set_ 3 (.string b.val)
              simp only [List.setIfInBounds_toArray, List.set_cons_zero, List.set_cons_succ] at B4
              rw [← HW2]
              exact (B4.alloc _).drew
            have hk2 : ∀ i, i < w1.heap.size → i ≠ wo.heap.size + 1 → W2.heap[i]? = w1.heap[i]? := by
              intro i hi hne
              rw [← HW2]
              refine (Below.heap_alloc _ _ _ (by simp; omega)).trans ?_
              rw [Below.heap_setCell _ _ _ _ (by simpa using hne), Below.heap_setCell _ _ _ _ (by simpa using hne), Below.heap_setCell _ _ _ _ (by simpa using hne), Below.heap_setCell _ _ _ _ (by simpa using hne)]
            have hE2 : W2.heap[wo.heap.size]? = some (.cells #[.int .i64 e.client, .int .i64 e.kind, .int .i64 e.okind, .string e.okey, .string e.oval, .string e.ohi, .int .i64 e.olim, .string e.val, .bool e.found, .int .i64 e.err, .slice e.oA e.on e.oc] 48 (0, 0)) := (hk2 _ (by omega) (by omega)).trans HBE.out
            have hB2 : Below w.heap.size w W2 := by
              rw [← HW2]
              repeat' (first | (with_reducible exact hBx) | (with_reducible refine Below.drew ?_) | refine Below.setCell ?_ (by show w.heap.size ≤ wo.heap.size + 1; omega) _ | refine Below.alloc ?_ (by simp; omega) _)
            have HO2 : Hid (W2.ownsRow w.heap.size 37 6 u4 (actsTo evs key k).length (aCs (actsTo evs key k))) := by
              rw [← HW2]
              exact Lib.hid (by repeat' (first | (with_reducible exact HOX.out) | (with_reducible refine World.ownsRow.drew ?_) | (with_reducible refine World.ownsRow.alloc ?_ _) | refine own_set ?_ _ _ (fun g hg => by have := HNE.out g hg; show g ≠ wo.heap.size + 1; omega)))
            have hzz : w1.heap.size ≤ W2.heap.size := by rw [← HW2]; simp
            clear HW2 hk2 HOX hBx e2 e4 x0 x1 x2 x3 x4 x5 f1 b0 b1 b2 b3 b4 b5 b6 b7 b8 b9 b10
            have hBx := hB2
            have HOX := HO2
            clear hB2 HO2
            have e2 : W2.cell? ⟨wo.heap.size, 2, none⟩ = some (.int .i64 e.okind) := by rw [cell_of_row _ _ _ _ _ _ hE2]; rfl
            have e4 : W2.cell? ⟨wo.heap.size, 4, none⟩ = some (.string e.oval) := by rw [cell_of_row _ _ _ _ _ _ hE2]; rfl
            have x0 : W2.cell? ⟨wo.heap.size + 1, 0, none⟩ = some (.int .i64 k) := by rw [hX2.cell]; rfl
            have x1 : W2.cell? ⟨wo.heap.size + 1, 1, none⟩ = some (.int .i64 ((k : Int) + 1 + j)) := by rw [hX2.cell]; rfl
            have x2 : W2.cell? ⟨wo.heap.size + 1, 2, none⟩ = some (.int .i64 e.okind) := by rw [hX2.cell]; rfl
            have x3 : W2.cell? ⟨wo.heap.size + 1, 3, none⟩ = some (.string b.val) := by rw [hX2.cell]; rfl
            have x4 : W2.cell? ⟨wo.heap.size + 1, 4, none⟩ = some (.bool b.found) := by rw [hX2.cell]; rfl
            have x5 : W2.cell? ⟨wo.heap.size + 1, 5, none⟩ = some (.bool true) := by rw [hX2.cell]; rfl
            have f1 : ∀ o, W2.frozen? ⟨wo.heap.size + 1, o, none⟩ = false := fun o => hX2.frozen o
            clear hX2 hE2
            cases hk1 : (e.okind == 1)
            · go_wp2_with (first
                | (at_builtin
                   refine wpList_append_any _ rfl _ _ _ rfl w.heap.size 37 i0 _ 6 48 Try.underlying22 hi hz0 hz1 hz2 rfl (by omega) _ _ _ rfl (HOX.out.alloc _) _ (some ⟨W2.heap.size, 0, none⟩) 1 1 (aCs [⟨k, (k : Int) + 1 + j, e.okind, b.val, b.found, true⟩]) rfl (lit37 _ _ _ (by first | rfl | simp)) (aCs_one _) (by have := HLL.out; simp only [maxLen]; omega) (by have := HLL.out; omega) (by first | omega | (simp; omega)) ?_
                   intro v2 w2 hown2 hg2 hat2))
              have hRel : ∃ k', k' ≤ n ∧ Value.int .i64 ((k : Int) + 1) = .int .i64 k' ∧ Hid (w2.ownsRow w.heap.size 37 6 v2 (actsTo evs key k').length (aCs (actsTo evs key k'))) ∧ Below w.heap.size w w2 := by
                refine ⟨k + 1, by omega, by go_num, ?_, Below.grown (by repeat' (first | (with_reducible exact hBx) | (with_reducible refine Below.drew ?_) | refine Below.setCell ?_ (by show w.heap.size ≤ wo.heap.size + 1; omega) _ | refine Below.alloc ?_ (by first | omega | (simp; omega)) _)) hg2 (by first | omega | (simp; omega)) (fun g hg => own_ge HO.out hg)⟩
                have e1 : (e.okind = 1) = False := by simpa using hk1
                rw [HST.out, HAO.out, Option.toList_some, List.length_append, aCs_append, List.length_singleton]
                simp only [e1, if_false]
                exact Lib.hid hown2
              first
                | exact ⟨hRel, by simp [intOf]; omega⟩
                | (obtain rfl : c = k + 1 := by omega
                   refine ⟨?_, by simp [intOf]; omega⟩
                   repeat apply Exists.intro
                   exact ⟨hRel, rfl⟩)
            · go_wp2_with (first
                | (at_builtin
                   refine wpList_append_any _ rfl _ _ _ rfl w.heap.size 37 i0 _ 6 48 Try.underlying22 hi hz0 hz1 hz2 rfl (by omega) _ _ _ rfl ((own_set HOX.out ⟨wo.heap.size + 1, 3, none⟩ (.string e.oval) HNX.out).alloc _) _ (some ⟨W2.heap.size, 0, none⟩) 1 1 (aCs [⟨k, (k : Int) + 1 + j, e.okind, e.oval, b.found, true⟩]) rfl (lit37 _ _ _ (by first | rfl | simp)) (aCs_one _) (by have := HLL.out; simp only [maxLen]; omega) (by have := HLL.out; omega) (by first | omega | (simp; omega)) ?_
                   intro v2 w2 hown2 hg2 hat2))
              have hRel : ∃ k', k' ≤ n ∧ Value.int .i64 ((k : Int) + 1) = .int .i64 k' ∧ Hid (w2.ownsRow w.heap.size 37 6 v2 (actsTo evs key k').length (aCs (actsTo evs key k'))) ∧ Below w.heap.size w w2 := by
                refine ⟨k + 1, by omega, by go_num, ?_, Below.grown (by repeat' (first | (with_reducible exact hBx) | (with_reducible refine Below.drew ?_) | refine Below.setCell ?_ (by show w.heap.size ≤ wo.heap.size + 1; omega) _ | refine Below.alloc ?_ (by first | omega | (simp; omega)) _)) hg2 (by first | omega | (simp; omega)) (fun g hg => own_ge HO.out hg)⟩
                have e1 : (e.okind = 1) = True := by simpa using hk1
                rw [HST.out, HAO.out, Option.toList_some, List.length_append, aCs_append, List.length_singleton]
                simp only [e1, if_true]
                exact Lib.hid hown2
              first
                | exact ⟨hRel, by simp [intOf]; omega⟩
                | (obtain rfl : c = k + 1 := by omega
                   refine ⟨?_, by simp [intOf]; omega⟩
                   repeat apply Exists.intro
                   exact ⟨hRel, rfl⟩)
        · have HI := Lib.hid (idx_none hj)
          have HAO : Hid (actOf evs key k e = some ⟨k, n, e.okind, if e.okind = 1 then e.oval else ⟨#[]⟩, false, false⟩) := Lib.hid (by
            unfold actOf
            rw [if_pos HASK.out, List.getElem?_eq_none (by omega), HR.out.1])
          clear hj q1 q2
          have q2p : e.okey.toList = key.toList := by simpa using q2'
          cases hk1 : (e.okind == 1)
          · rcases Nat.lt_or_ge (k + 1) c with hck | hck
            all_goals
              go_wp2_with fail
              refine (idx_any _ (n - (k + 1)) _ (evs.drop (k + 1)) e.client wo.heap.size _ (by first | exact RE.below (RE.below (RE.below (RE.cutA HR.out (by omega)) hB) ((Below.refl _ _).alloc (Nat.le_refl _) _)) ((Below.refl _ _).alloc (Nat.le_refl _) _) | exact RE.cutB (RE.below (RE.below (RE.below HR.out hB) ((Below.refl _ _).alloc (Nat.le_refl _) _)) ((Below.refl _ _).alloc (Nat.le_refl _) _)) (by omega)) (by omega) (by go_simp) (by simp; omega)).mono ?_
              rw [HI.out]
              rintro en w1 ⟨rfl, hb1⟩
              have hbE : w1.heap[wo.heap.size]? = some (.cells #[.int .i64 e.client, .int .i64 e.kind, .int .i64 e.okind, .string e.okey, .string e.oval, .string e.ohi, .int .i64 e.olim, .string e.val, .bool e.found, .int .i64 e.err, .slice e.oA e.on e.oc] 48 (0, 0)) := (hb1.block _ (by simp; omega)).trans ((Below.heap_alloc _ _ _ (by simp)).trans (heap_alloc_new _ _))
              have hbX : w1.heap[wo.heap.size + 1]? = some (.cells #[.int .i64 k, .int .i64 n, .int .i64 e.okind, .string ⟨#[]⟩, .bool false, .bool false] 37 (0, 0)) := (hb1.block _ (by simp)).trans (at_new _ _ _ (by simp))
              have hBx : Below w.heap.size w w1 := ((hB.alloc hB.size _).alloc (by have := hB.size; simp; omega) _).next hb1
              have hzE : wo.heap.size + 1 < w1.heap.size := heap_lt hbX
              have hzW : w.heap.size ≤ wo.heap.size := hB.size
              have e2 : w1.cell? ⟨wo.heap.size, 2, none⟩ = some (.int .i64 e.okind) := by rw [cell_of_row _ _ _ _ _ _ hbE]; rfl
              have e4 : w1.cell? ⟨wo.heap.size, 4, none⟩ = some (.string e.oval) := by rw [cell_of_row _ _ _ _ _ _ hbE]; rfl
              have x0 : w1.cell? ⟨wo.heap.size + 1, 0, none⟩ = some (.int .i64 k) := by rw [cell_of_row _ _ _ _ _ _ hbX]; rfl
              have x1 : w1.cell? ⟨wo.heap.size + 1, 1, none⟩ = some (.int .i64 n) := by rw [cell_of_row _ _ _ _ _ _ hbX]; rfl
              have x2 : w1.cell? ⟨wo.heap.size + 1, 2, none⟩ = some (.int .i64 e.okind) := by rw [cell_of_row _ _ _ _ _ _ hbX]; rfl
              have x3 : w1.cell? ⟨wo.heap.size + 1, 3, none⟩ = some (.string ⟨#[]⟩) := by rw [cell_of_row _ _ _ _ _ _ hbX]; rfl
              have x4 : w1.cell? ⟨wo.heap.size + 1, 4, none⟩ = some (.bool false) := by rw [cell_of_row _ _ _ _ _ _ hbX]; rfl
              have x5 : w1.cell? ⟨wo.heap.size + 1, 5, none⟩ = some (.bool false) := by rw [cell_of_row _ _ _ _ _ _ hbX]; rfl
              have f1 : ∀ o, w1.frozen? ⟨wo.heap.size + 1, o, none⟩ = false := fun o => frozen_of_row _ _ _ _ _ hbX
              have HOX := Lib.hid (own_below ((HO.out.alloc (.cells #[.int .i64 e.client, .int .i64 e.kind, .int .i64 e.okind, .string e.okey, .string e.oval, .string e.ohi, .int .i64 e.olim, .string e.val, .bool e.found, .int .i64 e.err, .slice e.oA e.on e.oc] 48)).alloc (.cells #[.int .i64 k, .int .i64 n, .int .i64 e.okind, .string ⟨#[]⟩, .bool false, .bool false] 37)) hb1)
              have HBE := Lib.hid hbE
              have HBX := Lib.hid hbX
              have HNE : Hid (∀ g, Value.ownBlock u4 = some g → g < wo.heap.size) := Lib.hid (fun g hg => (HO.out.lt g hg).2)
              have HNX : Hid (∀ g, Value.ownBlock u4 = some g → g ≠ wo.heap.size + 1) := Lib.hid (fun g hg => by have := HNE.out g hg; omega)
              have HLL := Lib.hid (acts_len evs key k)
              clear hbE hbX
              go_wp2_with (first
                | (at_builtin
                   refine wpList_append_any _ rfl _ _ _ rfl w.heap.size 37 i0 _ 6 48 Try.underlying22 hi hz0 hz1 hz2 rfl (by omega) _ _ _ rfl (HOX.out.alloc _) _ (some ⟨w1.heap.size, 0, none⟩) 1 1 (aCs [⟨k, n, e.okind, ⟨#[]⟩, false, false⟩]) rfl (lit37 _ _ _ (by first | rfl | simp)) (aCs_one _) (by have := HLL.out; simp only [maxLen]; omega) (by have := HLL.out; omega) (by first | omega | (simp; omega)) ?_
                   intro v2 w2 hown2 hg2 hat2))
              have hRel : ∃ k', k' ≤ n ∧ Value.int .i64 ((k : Int) + 1) = .int .i64 k' ∧ Hid (w2.ownsRow w.heap.size 37 6 v2 (actsTo evs key k').length (aCs (actsTo evs key k'))) ∧ Below w.heap.size w w2 := by
                refine ⟨k + 1, by omega, by go_num, ?_, Below.grown (by repeat' (first | (with_reducible exact hBx) | (with_reducible refine Below.drew ?_) | refine Below.setCell ?_ (by show w.heap.size ≤ wo.heap.size + 1; omega) _ | refine Below.alloc ?_ (by first | omega | (simp; omega)) _)) hg2 (by first | omega | (simp; omega)) (fun g hg => own_ge HO.out hg)⟩
                have e1 : (e.okind = 1) = False := by simpa using hk1
                rw [HST.out, HAO.out, Option.toList_some, List.length_append, aCs_append, List.length_singleton]
                simp only [e1, if_false]
                exact Lib.hid hown2
              first
                | exact ⟨hRel, by simp [intOf]; omega⟩
                | (obtain rfl : c = k + 1 := by omega
                   refine ⟨?_, by simp [intOf]; omega⟩
                   repeat apply Exists.intro
                   exact ⟨hRel, rfl⟩)
          · rcases Nat.lt_or_ge (k + 1) c with hck | hck
            all_goals
              go_wp2_with fail
              refine (idx_any _ (n - (k + 1)) _ (evs.drop (k + 1)) e.client wo.heap.size _ (by first | exact RE.below (RE.below (RE.below (RE.cutA HR.out (by omega)) hB) ((Below.refl _ _).alloc (Nat.le_refl _) _)) ((Below.refl _ _).alloc (Nat.le_refl _) _) | exact RE.cutB (RE.below (RE.below (RE.below HR.out hB) ((Below.refl _ _).alloc (Nat.le_refl _) _)) ((Below.refl _ _).alloc (Nat.le_refl _) _)) (by omega)) (by omega) (by go_simp) (by simp; omega)).mono ?_
              rw [HI.out]
              rintro en w1 ⟨rfl, hb1⟩
              have hbE : w1.heap[wo.heap.size]? = some (.cells #[.int .i64 e.client, .int .i64 e.kind, .int .i64 e.okind, .string e.okey, .string e.oval, .string e.ohi, .int .i64 e.olim, .string e.val, .bool e.found, .int .i64 e.err, .slice e.oA e.on e.oc] 48 (0, 0)) := (hb1.block _ (by simp; omega)).trans ((Below.heap_alloc _ _ _ (by simp)).trans (heap_alloc_new _ _))
              have hbX : w1.heap[wo.heap.size + 1]? = some (.cells #[.int .i64 k, .int .i64 n, .int .i64 e.okind, .string ⟨#[]⟩, .bool false, .bool false] 37 (0, 0)) := (hb1.block _ (by simp)).trans (at_new _ _ _ (by simp))
              have hBx : Below w.heap.size w w1 := ((hB.alloc hB.size _).alloc (by have := hB.size; simp; omega) _).next hb1
              have hzE : wo.heap.size + 1 < w1.heap.size := heap_lt hbX
              have hzW : w.heap.size ≤ wo.heap.size := hB.size
              have e2 : w1.cell? ⟨wo.heap.size, 2, none⟩ = some (.int .i64 e.okind) := by rw [cell_of_row _ _ _ _ _ _ hbE]; rfl
              have e4 : w1.cell? ⟨wo.heap.size, 4, none⟩ = some (.string e.oval) := by rw [cell_of_row _ _ _ _ _ _ hbE]; rfl
              have x0 : w1.cell? ⟨wo.heap.size + 1, 0, none⟩ = some (.int .i64 k) := by rw [cell_of_row _ _ _ _ _ _ hbX]; rfl
              have x1 : w1.cell? ⟨wo.heap.size + 1, 1, none⟩ = some (.int .i64 n) := by rw [cell_of_row _ _ _ _ _ _ hbX]; rfl
              have x2 : w1.cell? ⟨wo.heap.size + 1, 2, none⟩ = some (.int .i64 e.okind) := by rw [cell_of_row _ _ _ _ _ _ hbX]; rfl
              have x3 : w1.cell? ⟨wo.heap.size + 1, 3, none⟩ = some (.string ⟨#[]⟩) := by rw [cell_of_row _ _ _ _ _ _ hbX]; rfl
              have x4 : w1.cell? ⟨wo.heap.size + 1, 4, none⟩ = some (.bool false) := by rw [cell_of_row _ _ _ _ _ _ hbX]; rfl
              have x5 : w1.cell? ⟨wo.heap.size + 1, 5, none⟩ = some (.bool false) := by rw [cell_of_row _ _ _ _ _ _ hbX]; rfl
              have f1 : ∀ o, w1.frozen? ⟨wo.heap.size + 1, o, none⟩ = false := fun o => frozen_of_row _ _ _ _ _ hbX
              have HOX := Lib.hid (own_below ((HO.out.alloc (.cells #[.int .i64 e.client, .int .i64 e.kind, .int .i64 e.okind, .string e.okey, .string e.oval, .string e.ohi, .int .i64 e.olim, .string e.val, .bool e.found, .int .i64 e.err, .slice e.oA e.on e.oc] 48)).alloc (.cells #[.int .i64 k, .int .i64 n, .int .i64 e.okind, .string ⟨#[]⟩, .bool false, .bool false] 37)) hb1)
              have HBE := Lib.hid hbE
              have HBX := Lib.hid hbX
              have HNE : Hid (∀ g, Value.ownBlock u4 = some g → g < wo.heap.size) := Lib.hid (fun g hg => (HO.out.lt g hg).2)
              have HNX : Hid (∀ g, Value.ownBlock u4 = some g → g ≠ wo.heap.size + 1) := Lib.hid (fun g hg => by have := HNE.out g hg; omega)
              have HLL := Lib.hid (acts_len evs key k)
              clear hbE hbX
              go_wp2_with (first
                | (at_builtin
                   refine wpList_append_any _ rfl _ _ _ rfl w.heap.size 37 i0 _ 6 48 Try.underlying22 hi hz0 hz1 hz2 rfl (by omega) _ _ _ rfl ((own_set HOX.out ⟨wo.heap.size + 1, 3, none⟩ (.string e.oval) HNX.out).alloc _) _ (some ⟨w1.heap.size, 0, none⟩) 1 1 (aCs [⟨k, n, e.okind, e.oval, false, false⟩]) rfl (lit37 _ _ _ (by first | rfl | simp)) (aCs_one _) (by have := HLL.out; simp only [maxLen]; omega) (by have := HLL.out; omega) (by first | omega | (simp; omega)) ?_
                   intro v2 w2 hown2 hg2 hat2))
              have hRel : ∃ k', k' ≤ n ∧ Value.int .i64 ((k : Int) + 1) = .int .i64 k' ∧ Hid (w2.ownsRow w.heap.size 37 6 v2 (actsTo evs key k').length (aCs (actsTo evs key k'))) ∧ Below w.heap.size w w2 := by
                refine ⟨k + 1, by omega, by go_num, ?_, Below.grown (by repeat' (first | (with_reducible exact hBx) | (with_reducible refine Below.drew ?_) | refine Below.setCell ?_ (by show w.heap.size ≤ wo.heap.size + 1; omega) _ | refine Below.alloc ?_ (by first | omega | (simp; omega)) _)) hg2 (by first | omega | (simp; omega)) (fun g hg => own_ge HO.out hg)⟩
                have e1 : (e.okind = 1) = True := by simpa using hk1
                rw [HST.out, HAO.out, Option.toList_some, List.length_append, aCs_append, List.length_singleton]
                simp only [e1, if_true]
                exact Lib.hid hown2
              first
                | exact ⟨hRel, by simp [intOf]; omega⟩
                | (obtain rfl : c = k + 1 := by omega
                   refine ⟨?_, by simp [intOf]; omega⟩
                   repeat apply Exists.intro
                   exact ⟨hRel, rfl⟩)
      · have HAO : Hid (actOf evs key k e = none) := Lib.hid (by unfold actOf; rw [if_neg hq])
        cases q1 : (e.kind == 1)
        · have q1' : (e.kind != 1) = true := by simpa using q1
          clear hq
          go_wp2_with fail
          refine ⟨⟨k + 1, by omega, by go_num, ?_, hB.alloc hB.size _⟩, by simp [intOf]; omega⟩
          rw [HST.out, HAO.out, Option.toList_none, List.append_nil]
          exact Lib.hid (HO.out.alloc _)
        · have q1' : (e.kind != 1) = false := by simpa using q1
          by_cases q2 : e.okey.toList = key.toList
          · have q2' : (e.okey.toList != key.toList) = false := by simpa using q2
            by_cases q3 : e.okind < 1
            · have q3' : decide (e.okind < 1) = true := by simpa using q3
              clear hq q3 q1
              go_wp2_with fail
              refine ⟨⟨k + 1, by omega, by go_num, ?_, hB.alloc hB.size _⟩, by simp [intOf]; omega⟩
              rw [HST.out, HAO.out, Option.toList_none, List.append_nil]
              exact Lib.hid (HO.out.alloc _)
            · have q3' : decide (e.okind < 1) = false := by simpa using q3
              have q4' : decide (3 < e.okind) = true := by
                simp only [decide_eq_true_eq]
                refine Decidable.byContradiction fun h => hq ?_
                unfold asks
                simp [q1, q2]
                omega
              clear hq q3 q1
              go_wp2_with fail
              refine ⟨⟨k + 1, by omega, by go_num, ?_, hB.alloc hB.size _⟩, by simp [intOf]; omega⟩
              rw [HST.out, HAO.out, Option.toList_none, List.append_nil]
              exact Lib.hid (HO.out.alloc _)
          · have q2' : (e.okey.toList != key.toList) = true := by simpa using q2
            clear hq q1
            go_wp2_with fail
            refine ⟨⟨k + 1, by omega, by go_num, ?_, hB.alloc hB.size _⟩, by simp [intOf]; omega⟩
            rw [HST.out, HAO.out, Option.toList_none, List.append_nil]
            exact Lib.hid (HO.out.alloc _)
    · obtain rfl : k = n := by omega
      go_wp2
      go_ret
      exact ⟨_, rfl, HO.out, hB⟩
theorem acts_any (A : Option Addr) (n c : Nat) (evs : List PE) (key : ByteArray) (w : World) (h : RE w A n evs) (hn : n ≤ 1000000000) (hc : n ≤ c) (_ : c ≤ 9223372036854775807) :
    Calls Try.prog 14 #[.slice A n c, .string key] w (ActsPost (actsTo evs key n) w) :=
  (acts_own A n c evs key w h hn hc).mono fun _ _ ⟨_, he, ho, hb⟩ => by
    obtain ⟨A', c', rfl, hcc, hra⟩ := own_acts ho
    exact ⟨A', c', he, hcc, hra, hb⟩
end Go.Proofs.Ytdblecmelmeibaa
