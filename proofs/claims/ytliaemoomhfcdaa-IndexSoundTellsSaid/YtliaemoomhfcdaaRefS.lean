/- The walks of the reference's index: a level's nodes, a node that leads to the level below, and whether an index is sound. -/
import Derived.Test.YtliaemoomhfcdaaRefK
namespace Go.Proofs.Ytliaemoomhfcdaa
open Go.RowKit Go.Proofs.YtliaemoomhfcdaaW.PrintWords
set_option maxHeartbeats 2000000
set_option maxRecDepth 100000
set_option linter.unusedVariables false
set_option linter.unusedSimpArgs false
attribute [local go_sem] le_flip

/-- The nodes of a level, from a block on: what there is so far, and the next one. -/
def levGo (ws : List Int) (lv : Int) : Nat → List Int → Int → Option (List Int)
  | 0, out, at' => if at' = 0 then some out else none
  | n + 1, out, at' => if at' = 0 then some out else if (nodeRead ws at').2 = 0 ∧ (nodeRead ws at').1.level = lv ∧ out.contains at' = false then levGo ws lv n (out ++ [at']) (nodeRead ws at').1.next else none
def levRead (ws : List Int) (b lv : Int) : Option (List Int) := levGo ws lv (ws.length / 16 + 1) [] b
def levAns : Option (List Int) → List Int × Bool
  | some l => (l, true)
  | none => ([], false)
def OwnTwoB (w : World) (r : List Int × Bool) (e : Ending) (w' : World) : Prop := ∃ v, e = .returned (.tuple #[v, .bool r.2]) ∧ w'.ownsRow w.heap.size 3 1 v r.1.length (ints r.1) ∧ Below w.heap.size w w'
theorem rchain_any (A : Option Addr) (c : Nat) (ws : List Int) (b0 lv0 : Int) (w : World) (h : RI w A ws.length ws) (hn : ws.length ≤ 60000) (hc : ws.length ≤ c) :
    Calls Try.prog 64 #[.slice A ws.length c, .int .i64 b0, .int .i64 lv0] w (OwnTwoB w (levAns (levRead ws b0 lv0))) := by
  have HC := Lib.hid h
  have HND := Lib.hid (fun x W hW => rnode_any A c ws x W hW hn hc)
  unfold NodePost at HND
  clear h
  obtain ⟨r, hr⟩ : ∃ r, r = levRead ws b0 lv0 := ⟨_, rfl⟩
  rw [← hr]
  have HNONE := Lib.hid (fun (e : r = none) => (show levAns r = ([], false) by rw [e]; rfl))
  have HSOME := Lib.hid (fun l (e : r = some l) => (show levAns r = (l, true) by rw [e]; rfl))
  generalize levAns r = ans at HNONE HSOME ⊢
  unfold levRead at hr
  obtain ⟨i0, hi0, hz0, hz1, hz2⟩ := info_parts int_info
  have HR := Lib.hid hr
  clear hr
  go_enter Try.func64, Try.ntmps64
  go_wp2_with fail
  go_loopw [8, 9] (fun v a wr => ∃ (n : Nat) (l : List Int) (at' : Int), a = .int .i64 at' ∧ Hid (wr.ownsRow w.heap.size 3 1 v l.length (ints l)) ∧ Hid (Below w.heap.size w wr) ∧ Hid (r = levGo ws lv0 n l at') ∧ Hid (LeavesOk ws n l)) (fun v _ _ => ws.length / 16 + 1 - sliceLen v)
  case atStart => exact ⟨ws.length / 16 + 1, [], b0, rfl, Lib.hid (World.ownsRow_nil _ _ _ _), Lib.hid (Below.refl _ _), HR, Lib.hid ⟨rfl, List.nodup_nil, by simp⟩⟩
  case round =>
    obtain ⟨n, l, at1, rfl, HO, HB, HG, HL⟩ := hrel
    obtain ⟨m, rfl⟩ := HL.out.pos
    obtain ⟨A2, c2, rfl, hc2, _⟩ := own_cap HO.out
    have HC2 := Lib.hid hc2
    clear hc2
    have hln : l.length ≤ 1000000000 := by have := HL.out.1; omega
    by_cases ha : at1 = 0
    · subst ha
      have hg : r = some l := HG.out
      have hans := HSOME.out l hg
      subst hans
      clear hg
      go_wp2
      go_ret2
      exact ⟨_, rfl, HO.out, HB.out⟩
    have ha1 := bne_t ha
    have hg : r = if (nodeRead ws at1).2 = 0 ∧ (nodeRead ws at1).1.level = lv0 ∧ l.contains at1 = false then levGo ws lv0 m (l ++ [at1]) (nodeRead ws at1).1.next else none := by
      have := HG.out
      rw [levGo, if_neg ha] at this
      exact this
    have HN := Lib.hid (HND.out at1)
    have hrange := @nodeRead_range ws at1
    generalize nodeRead ws at1 = nd at hg HN hrange
    obtain ⟨⟨lv, tu, ne, lo, sl⟩, er⟩ := nd
    simp only at hg HN hrange
    by_cases hnode : er = 0
    rotate_left
    · rw [if_neg (fun hh => hnode hh.1)] at hg
      have hans := HNONE.out hg
      subst hans
      have e1 := bne_t hnode
      clear hg hnode ha hrange
      go_wp2_with ((go_at_call 41; refine (HN.out _ (HC.out.below HB.out)).mono ?_; rintro e w1 ⟨v, rfl, hR, hB1⟩; obtain ⟨A1, c1, rfl⟩ := Kd.R_slice hR; have HB1 := Lib.hid (HB.out.next hB1); clear hR hB1))
      go_ret2
      exact ⟨_, rfl, World.ownsRow_nil _ _ _ _, HB1.out.alloc HB1.out.size _⟩
    subst hnode
    have HRG := Lib.hid (hrange rfl)
    clear hrange
    by_cases hlv : lv = lv0
    rotate_left
    · rw [if_neg (fun hh => hlv hh.2.1)] at hg
      have hans := HNONE.out hg
      subst hans
      have e1 := bne_t hlv
      clear hg ha hlv
      go_wp2_with ((go_at_call 41; refine (HN.out _ (HC.out.below HB.out)).mono ?_; rintro e w1 ⟨v, rfl, hR, hB1⟩; obtain ⟨A1, c1, rfl⟩ := Kd.R_slice hR; have HB1 := Lib.hid (HB.out.next hB1); clear hR hB1))
      go_ret2
      exact ⟨_, rfl, World.ownsRow_nil _ _ _ _, HB1.out.alloc HB1.out.size _⟩
    subst hlv
    have e0 : (lv != lv) = false := bne_f rfl
    cases hct : l.contains at1 with
    | true =>
      rw [if_neg (fun hh => by rw [hct] at hh; simp at hh)] at hg
      have hans := HNONE.out hg
      subst hans
      have HCT := Lib.hid (fun W hW => rin_any A2 l.length c2 l at1 W hW hln)
      rw [hct] at HCT
      clear hg ha hct
      go_wp2_with (first
        | (go_at_call 41; refine (HN.out _ (HC.out.below HB.out)).mono ?_; rintro e w1 ⟨v, rfl, hR, hB1⟩; obtain ⟨A1, c1, rfl⟩ := Kd.R_slice hR; have HB1 := Lib.hid (HB.out.next hB1); have HO1 := Lib.hid (own_below_ HO.out hB1); clear hR hB1)
        | (go_at_call 25; refine (HCT.out _ (RI.own (own_alloc_ HO1.out _))).mono ?_; rintro e w3 ⟨rfl, rfl⟩))
      go_ret2
      exact ⟨_, rfl, World.ownsRow_nil _ _ _ _, HB1.out.alloc HB1.out.size _⟩
    | false =>
      rw [if_pos ⟨rfl, rfl, hct⟩] at hg
      have HG2 := Lib.hid hg
      have HCN := Lib.hid hct
      have HCT := Lib.hid (fun W hW => rin_any A2 l.length c2 l at1 W hW hln)
      rw [hct] at HCT
      clear hg ha hct
      go_upto_region 7 with (first
        | (go_at_call 41; refine (HN.out _ (HC.out.below HB.out)).mono ?_; rintro e w1 ⟨v, rfl, hR, hB1⟩; obtain ⟨A1, c1, rfl⟩ := Kd.R_slice hR; have HB1 := Lib.hid (HB.out.next hB1); have HO1 := Lib.hid (own_below_ HO.out hB1); clear hR hB1)
        | (go_at_call 25; refine (HCT.out _ (RI.own (own_alloc_ HO1.out _))).mono ?_; rintro e w3 ⟨rfl, rfl⟩))
      have HROW := Lib.hid (heap_alloc_new w1 (.cells #[.int .i64 lv, .int .i64 tu, .int .i64 ne, .int .i64 lo, .slice A1 sl.length c1] 24))
      have HO2 := Lib.hid (own_alloc_ HO1.out (.cells #[.int .i64 lv, .int .i64 tu, .int .i64 ne, .int .i64 lo, .slice A1 sl.length c1] 24))
      have HB2 := Lib.hid (HB1.out.alloc HB1.out.size (.cells #[.int .i64 lv, .int .i64 tu, .int .i64 ne, .int .i64 lo, .slice A1 sl.length c1] 24))
      have hlt2 : w1.heap.size < (w1.alloc (.cells #[.int .i64 lv, .int .i64 tu, .int .i64 ne, .int .i64 lo, .slice A1 sl.length c1] 24)).heap.size := by simp
      have HNB := Lib.hid (show (Value.slice A2 l.length c2).ownBlock ≠ some w1.heap.size from fun e => by have := own_lt HO1.out e; omega)
      clear HO1 HB1
      generalize w1.alloc (.cells #[.int .i64 lv, .int .i64 tu, .int .i64 ne, .int .i64 lo, .slice A1 sl.length c1] 24) = W2 at HROW HO2 HB2 hlt2 ⊢
      have hw2 : w.heap.size ≤ W2.heap.size := HB2.out.size
      go_upto_region 8 with (first
        | (at_builtin
           refine wpList_append_any _ rfl _ _ _ rfl w.heap.size 3 i0 _ 1 8 Try.underlying22 hi0 hz0 hz1 hz2 rfl (by omega) _ _ _ rfl ((own_alloc_ HO2.out) _) _ _ 1 1 [.int .i64 at1] rfl (reads_one _ _ _) (by simp [Value.oneCell']) (by simp only [maxLen]; omega) (by omega) (by simp; omega) ?_
           intro v3 w4 hown3 hg3 hat3))
      have hrow4 : w4.heap[w1.heap.size]? = _ := (hg3.block _ (by simp; omega) (Ne.symm HNB.out)).trans ((Below.heap_alloc _ _ _ hlt2).trans HROW.out)
      have hfl := cell_of_row _ _ 2 _ _ _ hrow4
      have hb4 := (HB2.out.alloc hw2 (.cells #[.int .i64 at1] 3)).grown hg3 (by simp; omega) (fun q hq => own_ge HO2.out hq)
      have hok : LeavesOk ws m (l ++ [at1]) := LeavesOk.snoc HL.out HRG.out HCN.out
      obtain ⟨A3, c3, rfl, _⟩ := own_form1 hown3
      have hone : w4.ownsRow w.heap.size 3 1 (.slice A3 (l.length + 1) c3) (l ++ [at1]).length (ints (l ++ [at1])) := by simpa using hown3
      have HONE := Lib.hid hone
      have HB4 := Lib.hid hb4
      have HOK := Lib.hid hok
      have hlm : l.length + 1 ≤ ws.length / 16 + 1 := by have := HL.out.1; omega
      clear hone hb4 hok hown3 hg3 hat3 hrow4
      go_wp2_with fail
      go_roundw
      case rel => exact ⟨m, l ++ [at1], ne, rfl, HONE, HB4, HG2, HOK⟩
      case measure =>
        show ws.length / 16 + 1 - (l.length + 1) < ws.length / 16 + 1 - l.length
        omega
/-- Do a node's slots lead to nodes of the level below? -/
def slead (ws : List Int) (ne : Int) (high low : ByteArray) (below : List Int) : Option ByteArray → List Int → Bool
  | _, [] => true
  | p, s :: t => (decide (ne = 0) || ltS (recRead ws s).1.key high) && decide ((recRead ws s).2 = 0) && decide ((recRead ws s).1.kind = 2) && (match p with | none => decide ((recRead ws s).1.key.toList = low.toList) | some y => ltS y (recRead ws s).1.key) &&
    below.contains (recRead ws s).1.child && decide ((lowRead ws (recRead ws s).1.child).2 = 0) && decide ((lowRead ws (recRead ws s).1.child).1.toList = (recRead ws s).1.key.toList) && slead ws ne high low below (some (recRead ws s).1.key) t
theorem slead_nil (ws : List Int) (ne : Int) (high low : ByteArray) (below : List Int) (p : Option ByteArray) : slead ws ne high low below p [] = true := by cases p <;> rfl
theorem slead_cons (ws : List Int) (ne : Int) (high low : ByteArray) (below : List Int) (p : Option ByteArray) (s : Int) (t : List Int) : slead ws ne high low below p (s :: t) = ((decide (ne = 0) || ltS (recRead ws s).1.key high) && decide ((recRead ws s).2 = 0) && decide ((recRead ws s).1.kind = 2) && (match p with | none => decide ((recRead ws s).1.key.toList = low.toList) | some y => ltS y (recRead ws s).1.key) &&
    below.contains (recRead ws s).1.child && decide ((lowRead ws (recRead ws s).1.child).2 = 0) && decide ((lowRead ws (recRead ws s).1.child).1.toList = (recRead ws s).1.key.toList) && slead ws ne high low below (some (recRead ws s).1.key) t) := by cases p <;> rfl
def nodeLead (ws below : List Int) (b : Int) : Bool := decide ((lowRead ws b).2 = 0) && decide ((nodeRead ws b).1.slots.length ≠ 0) && slead ws (nodeRead ws b).1.next (lowRead ws (nodeRead ws b).1.next).1 (lowRead ws b).1 below none (nodeRead ws b).1.slots
theorem rnode15_any (A : Option Addr) (c : Nat) (ws : List Int) (b : Int) (B : Option Addr) (m d : Nat) (below : List Int) (w : World) (h : RI w A ws.length ws) (hn : ws.length ≤ 60000) (hc : ws.length ≤ c) (hB : RI w B m below) (hm : m ≤ 1000000) :
    Calls Try.prog 97 #[.slice A ws.length c, .int .i64 b, .slice B m d] w fun e w' => e = .returned (.bool (nodeLead ws below b)) ∧ Below w.heap.size w w' := by
  have HC := Lib.hid h
  have HBE := Lib.hid hB
  have HN := Lib.hid (rnode_any A c ws b w h hn hc)
  have HRD := Lib.hid (fun x W hW => rrec_any A c ws x W hW hn hc)
  have HLO := Lib.hid (fun x W hW => rlow_any A c ws x W hW hn hc)
  have hs13 := nodeRead_slots_ ws b
  clear h hB
  unfold NodePost at HN
  unfold RecPost at HRD
  unfold nodeLead
  have HLW := Lib.hid (HLO.out b)
  generalize lowRead ws b = lr at HLW ⊢
  obtain ⟨lw, el⟩ := lr
  generalize nodeRead ws b = nd at HN hs13 ⊢
  obtain ⟨⟨lv, tu, ne, lo, sl⟩, en⟩ := nd
  simp only at hs13 HLW HN ⊢
  have HHI := Lib.hid (HLO.out ne)
  generalize lowRead ws ne = hr at HHI ⊢
  obtain ⟨high, eh⟩ := hr
  simp only at HHI ⊢
  obtain ⟨q, hq⟩ : ∃ q, q = slead ws ne high lw below none sl := ⟨_, rfl⟩
  rw [← hq]
  have HQ := Lib.hid hq
  clear hq
  obtain ⟨z, hz⟩ : ∃ z, z = (decide (el = 0) && decide (sl.length ≠ 0) && q) := ⟨_, rfl⟩
  rw [← hz]
  have HZ := Lib.hid hz
  clear hz
  go_enter Try.func97, Try.ntmps97
  go_upto_region 2 with ((go_at_call 41; refine HN.out.mono ?_; rintro e w1 ⟨v1, rfl, hR1, hB1⟩; obtain ⟨A1, c1, rfl, hc1, hC1⟩ := Kd.R_reads hR1))
  have HROW := Lib.hid (heap_alloc_new w1 (.cells #[.int .i64 lv, .int .i64 tu, .int .i64 ne, .int .i64 lo, .slice A1 sl.length c1] 24))
  have HB2 := Lib.hid (hB1.alloc hB1.size (.cells #[.int .i64 lv, .int .i64 tu, .int .i64 ne, .int .i64 lo, .slice A1 sl.length c1] 24))
  have HSL := Lib.hid (RI_of_C (Kd.C_alloc hC1 (.cells #[.int .i64 lv, .int .i64 tu, .int .i64 ne, .int .i64 lo, .slice A1 sl.length c1] 24)))
  have hl2 : w1.heap.size < (w1.alloc (.cells #[.int .i64 lv, .int .i64 tu, .int .i64 ne, .int .i64 lo, .slice A1 sl.length c1] 24)).heap.size := by simp
  generalize w1.alloc (.cells #[.int .i64 lv, .int .i64 tu, .int .i64 ne, .int .i64 lo, .slice A1 sl.length c1] 24) = w2 at HROW HB2 HSL hl2 ⊢
  have QN := Lib.hid (fun (W : World) (h : Below w2.heap.size w2 W) => (show W.cell? ⟨w1.heap.size, 2, none⟩ = some (.int .i64 ne) ∧ W.cell? ⟨w1.heap.size, 4, none⟩ = some (.slice A1 sl.length c1) from
    have g := (h.block _ hl2).trans HROW.out
    ⟨cell_of_row _ _ 2 _ _ _ g, cell_of_row _ _ 4 _ _ _ g⟩))
  clear hR1 hC1 hB1 hc1 HROW
  go_upto_region 3 with ((go_at_call 42; refine (HLW.out _ (HC.out.below HB2.out)).mono ?_; rintro e w3 ⟨rfl, hB3⟩))
  have HB3 := Lib.hid hB3
  obtain ⟨k2, k4⟩ := QN.out _ hB3
  clear hB3
  by_cases hel : el = 0
  rotate_left
  · have hz := HZ.out
    rw [decide_eq_false hel, Bool.false_and, Bool.false_and] at hz
    have e1 := bne_t hel
    subst hz
    clear hel
    go_wp2_with fail
    go_ret
    exact ⟨rfl, HB2.out.next HB3.out⟩
  subst hel
  by_cases hsl : sl.length = 0
  · have hz := HZ.out
    rw [decide_eq_false (show ¬ sl.length ≠ 0 from fun h => h hsl), Bool.and_false, Bool.false_and] at hz
    have e1 : ((sl.length : Int) == 0) = true := by rw [beq_iff_eq]; omega
    subst hz
    clear hsl
    go_wp2_with fail
    go_ret
    exact ⟨rfl, HB2.out.next HB3.out⟩
  have hz := HZ.out
  clear HZ
  rw [decide_eq_true rfl, decide_eq_true hsl, Bool.true_and, Bool.true_and] at hz
  subst z
  have e1 : ((sl.length : Int) == 0) = false := by rw [beq_eq_false_iff_ne]; omega
  clear hsl
  go_wp2_with ((go_at_call 42; refine (HHI.out _ (HC.out.below (HB2.out.next HB3.out))).mono ?_; rintro e w4 ⟨rfl, hB4⟩))
  have HB4 := Lib.hid (HB3.out.next hB4)
  clear hB4 k2 k4 HB3 e1
  go_loopw [13, 14] (fun la i wr => ∃ (k : Nat) (last : ByteArray), k ≤ sl.length ∧ i = .int .i64 k ∧ la = .string last ∧ Hid (q = slead ws ne high lw below (if k = 0 then none else some last) (sl.drop k)) ∧ Hid (Below w2.heap.size w2 wr)) (fun _ i _ => sl.length - (intOf i).toNat)
  case atStart => exact ⟨0, ⟨#[]⟩, by omega, rfl, rfl, HQ, HB4⟩
  case round =>
    obtain ⟨k, last, hk, rfl, rfl, HG, HB⟩ := hrel
    have HBW := Lib.hid (HB2.out.next HB.out)
    obtain ⟨n2, n4⟩ := QN.out _ HB.out
    by_cases hlt : k < sl.length
    · obtain ⟨ad, s, rfl, hb, hx, hat⟩ := (HSL.out.below HB.out).at_ hlt
      have hdr : sl.drop k = s :: sl.drop (k + 1) := dropK hx
      have hg := HG.out
      rw [hdr, slead_cons] at hg
      have HX := Lib.hid (HRD.out s)
      clear hx hdr
      generalize recRead ws s = rc at hg HX
      obtain ⟨⟨kd, ky, va, ch⟩, er⟩ := rc
      simp only at hg
      have HLC := Lib.hid (HLO.out ch)
      generalize lowRead ws ch = lc at hg HLC
      obtain ⟨fr, eg⟩ := lc
      simp only at hg
      obtain ⟨pk, hpk⟩ : ∃ pk : Bool, pk = (match (if k = 0 then none else some last) with | none => decide (ky.toList = lw.toList) | some y => ltS y ky) := ⟨_, rfl⟩
      rw [← hpk] at hg
      have HKK := Lib.hid (show (((k : Int) == 0) = true ∧ ¬ (0 : Int) < (k : Int) ∧ (ky.toList == lw.toList) = pk) ∨ (((k : Int) == 0) = false ∧ (0 : Int) < (k : Int) ∧ Op.bytesLess last.toList ky.toList = pk) by
        by_cases hk0 : k = 0
        · left
          rw [if_pos hk0] at hpk
          exact ⟨by rw [beq_iff_eq]; omega, by omega, by rw [hpk]; show (ky.toList == lw.toList) = decide (ky.toList = lw.toList); rw [Bool.eq_iff_iff]; simp⟩
        · right
          rw [if_neg hk0] at hpk
          exact ⟨by rw [beq_eq_false_iff_ne]; omega, by omega, by rw [hpk]; rfl⟩)
      have HG2 := Lib.hid hg
      clear hg hpk
      go_upto_region 11 with ((go_at_call 43; refine (HX.out _ (HC.out.below HBW.out)).mono ?_; rintro e w3 ⟨rfl, hB3⟩))
      have HROWX := Lib.hid (heap_alloc_new w3 (.cells #[.int .i64 kd, .string ky, .string va, .int .i64 ch] 62))
      have HB5 := Lib.hid ((HB.out.next hB3).alloc (HB.out.next hB3).size (.cells #[.int .i64 kd, .string ky, .string va, .int .i64 ch] 62))
      have hl5 : w3.heap.size < (w3.alloc (.cells #[.int .i64 kd, .string ky, .string va, .int .i64 ch] 62)).heap.size := by simp
      generalize w3.alloc (.cells #[.int .i64 kd, .string ky, .string va, .int .i64 ch] 62) = w5 at HROWX HB5 hl5 ⊢
      obtain ⟨m2, m4⟩ := QN.out _ HB5.out
      have x1 := cell_of_row _ _ 1 _ _ _ HROWX.out
      have x3 := cell_of_row _ _ 3 _ _ _ HROWX.out
      have HBF := Lib.hid (HB2.out.next HB5.out)
      clear hB3 n2 n4 hat
      have hg := HG2.out
      have hcase : ne = 0 ∨ (¬ ne = 0 ∧ ltS ky high = true) ∨ (¬ ne = 0 ∧ ltS ky high = false) := by
        by_cases h0 : ne = 0
        · exact .inl h0
        · cases h1 : ltS ky high
          · exact .inr (.inr ⟨h0, rfl⟩)
          · exact .inr (.inl ⟨h0, rfl⟩)
      rcases hcase with h0 | ⟨h0, h1⟩ | ⟨h0, h1⟩
      rotate_left 2
      · rw [decide_eq_false h0, h1] at hg
        simp only [Bool.or_self, Bool.false_and] at hg
        have e1 := bne_t h0
        have e2 := ltS_f h1
        subst hg
        clear h0 h1
        go_wp2_with fail
        go_ret
        exact ⟨rfl, HBF.out⟩
      · rw [decide_eq_true h0] at hg
        simp only [Bool.true_or, Bool.true_and] at hg
        have HG3 := Lib.hid hg
        have e1 := bne_f h0
        clear h0 hg
        go_upto_region 14 with ((go_at_call 42; refine (HLC.out _ (HC.out.below HBF.out)).mono ?_; rintro e w6 ⟨rfl, hB6⟩))
        have HBG := Lib.hid (HBF.out.next hB6)
        have HB6 := Lib.hid (HB5.out.next hB6)
        have g6 := (hB6.block _ hl5).trans HROWX.out
        have y0 := cell_of_row _ _ 0 _ _ _ g6
        have y1 := cell_of_row _ _ 1 _ _ _ g6
        have y3 := cell_of_row _ _ 3 _ _ _ g6
        clear g6 hB6 x1 x3 m2 m4
        have hg := HG3.out
        have hkk := HKK.out
        have HIN := Lib.hid (fun W hW => rin_any B m d below ch W hW (by omega))
        by_cases her : er = 0
        rotate_left
        · rw [decide_eq_false her] at hg
          simp only [Bool.false_and] at hg
          have e3 := bne_t her
          clear her
          subst hg
          rcases hkk with ⟨b1, b2, b3⟩ | ⟨b1, b2, b3⟩
          all_goals
            go_wp2_with ((go_at_call 25; refine (HIN.out _ (HBE.out.below HBG.out)).mono ?_; rintro e w7 ⟨rfl, rfl⟩))
            go_ret
            exact ⟨rfl, HBG.out⟩
        subst her
        rw [decide_eq_true rfl, Bool.true_and] at hg
        by_cases hkd : kd = 2
        rotate_left
        · rw [decide_eq_false hkd] at hg
          simp only [Bool.false_and] at hg
          have e3 := bne_t hkd
          clear hkd
          subst hg
          rcases hkk with ⟨b1, b2, b3⟩ | ⟨b1, b2, b3⟩
          all_goals
            go_wp2_with ((go_at_call 25; refine (HIN.out _ (HBE.out.below HBG.out)).mono ?_; rintro e w7 ⟨rfl, rfl⟩))
            go_ret
            exact ⟨rfl, HBG.out⟩
        subst hkd
        rw [decide_eq_true rfl, Bool.true_and] at hg
        cases pk with
        | false =>
          simp only [Bool.false_and] at hg
          subst hg
          rcases hkk with ⟨b1, b2, b3⟩ | ⟨b1, b2, b3⟩
          all_goals
            go_wp2_with ((go_at_call 25; refine (HIN.out _ (HBE.out.below HBG.out)).mono ?_; rintro e w7 ⟨rfl, rfl⟩))
            go_ret
            exact ⟨rfl, HBG.out⟩
        | true =>
          rw [Bool.true_and] at hg
          cases hin : below.contains ch with
          | false =>
            rw [hin] at hg HIN
            simp only [Bool.false_and] at hg
            clear hin
            subst hg
            rcases hkk with ⟨b1, b2, b3⟩ | ⟨b1, b2, b3⟩
            all_goals
              go_wp2_with ((go_at_call 25; refine (HIN.out _ (HBE.out.below HBG.out)).mono ?_; rintro e w7 ⟨rfl, rfl⟩))
              go_ret
              exact ⟨rfl, HBG.out⟩
          | true =>
            rw [hin] at hg HIN
            rw [Bool.true_and] at hg
            clear hin
            by_cases heg : eg = 0
            rotate_left
            · rw [decide_eq_false heg] at hg
              simp only [Bool.false_and] at hg
              have e3 := bne_t heg
              clear heg
              subst hg
              rcases hkk with ⟨b1, b2, b3⟩ | ⟨b1, b2, b3⟩
              all_goals
                go_wp2_with ((go_at_call 25; refine (HIN.out _ (HBE.out.below HBG.out)).mono ?_; rintro e w7 ⟨rfl, rfl⟩))
                go_ret
                exact ⟨rfl, HBG.out⟩
            subst heg
            rw [decide_eq_true rfl, Bool.true_and] at hg
            by_cases hfr : fr.toList = ky.toList
            rotate_left
            · rw [decide_eq_false hfr, Bool.false_and] at hg
              have e3 : (fr.toList == ky.toList) = false := beq_eq_false_iff_ne.2 hfr
              clear hfr
              subst hg
              rcases hkk with ⟨b1, b2, b3⟩ | ⟨b1, b2, b3⟩
              all_goals
                go_wp2_with ((go_at_call 25; refine (HIN.out _ (HBE.out.below HBG.out)).mono ?_; rintro e w7 ⟨rfl, rfl⟩))
                go_ret
                exact ⟨rfl, HBG.out⟩
            rw [decide_eq_true hfr, Bool.true_and] at hg
            have e3 : (fr.toList == ky.toList) = true := beq_iff_eq.2 hfr
            have HG4 := Lib.hid (show q = slead ws ne high lw below (if k + 1 = 0 then none else some ky) (sl.drop (k + 1)) by rw [if_neg (by omega)]; exact hg)
            clear hfr hg
            rcases hkk with ⟨b1, b2, b3⟩ | ⟨b1, b2, b3⟩
            all_goals
              go_wp2_with ((go_at_call 25; refine (HIN.out _ (HBE.out.below HBG.out)).mono ?_; rintro e w7 ⟨rfl, rfl⟩))
              go_roundw
              case rel => exact ⟨k + 1, _, by omega, by go_num, rfl, HG4, HB6⟩
              case measure => simp [intOf]; omega
      · rw [decide_eq_false h0, h1] at hg
        simp only [Bool.false_or, Bool.true_and] at hg
        have HG3 := Lib.hid hg
        have e1 := bne_t h0
        have e2 := ltS_t h1
        clear h0 h1 hg
        go_upto_region 14 with ((go_at_call 42; refine (HLC.out _ (HC.out.below HBF.out)).mono ?_; rintro e w6 ⟨rfl, hB6⟩))
        have HBG := Lib.hid (HBF.out.next hB6)
        have HB6 := Lib.hid (HB5.out.next hB6)
        have g6 := (hB6.block _ hl5).trans HROWX.out
        have y0 := cell_of_row _ _ 0 _ _ _ g6
        have y1 := cell_of_row _ _ 1 _ _ _ g6
        have y3 := cell_of_row _ _ 3 _ _ _ g6
        clear g6 hB6 x1 x3 m2 m4
        have hg := HG3.out
        have hkk := HKK.out
        have HIN := Lib.hid (fun W hW => rin_any B m d below ch W hW (by omega))
        by_cases her : er = 0
        rotate_left
        · rw [decide_eq_false her] at hg
          simp only [Bool.false_and] at hg
          have e3 := bne_t her
          clear her
          subst hg
          rcases hkk with ⟨b1, b2, b3⟩ | ⟨b1, b2, b3⟩
          all_goals
            go_wp2_with ((go_at_call 25; refine (HIN.out _ (HBE.out.below HBG.out)).mono ?_; rintro e w7 ⟨rfl, rfl⟩))
            go_ret
            exact ⟨rfl, HBG.out⟩
        subst her
        rw [decide_eq_true rfl, Bool.true_and] at hg
        by_cases hkd : kd = 2
        rotate_left
        · rw [decide_eq_false hkd] at hg
          simp only [Bool.false_and] at hg
          have e3 := bne_t hkd
          clear hkd
          subst hg
          rcases hkk with ⟨b1, b2, b3⟩ | ⟨b1, b2, b3⟩
          all_goals
            go_wp2_with ((go_at_call 25; refine (HIN.out _ (HBE.out.below HBG.out)).mono ?_; rintro e w7 ⟨rfl, rfl⟩))
            go_ret
            exact ⟨rfl, HBG.out⟩
        subst hkd
        rw [decide_eq_true rfl, Bool.true_and] at hg
        cases pk with
        | false =>
          simp only [Bool.false_and] at hg
          subst hg
          rcases hkk with ⟨b1, b2, b3⟩ | ⟨b1, b2, b3⟩
          all_goals
            go_wp2_with ((go_at_call 25; refine (HIN.out _ (HBE.out.below HBG.out)).mono ?_; rintro e w7 ⟨rfl, rfl⟩))
            go_ret
            exact ⟨rfl, HBG.out⟩
        | true =>
          rw [Bool.true_and] at hg
          cases hin : below.contains ch with
          | false =>
            rw [hin] at hg HIN
            simp only [Bool.false_and] at hg
            clear hin
            subst hg
            rcases hkk with ⟨b1, b2, b3⟩ | ⟨b1, b2, b3⟩
            all_goals
              go_wp2_with ((go_at_call 25; refine (HIN.out _ (HBE.out.below HBG.out)).mono ?_; rintro e w7 ⟨rfl, rfl⟩))
              go_ret
              exact ⟨rfl, HBG.out⟩
          | true =>
            rw [hin] at hg HIN
            rw [Bool.true_and] at hg
            clear hin
            by_cases heg : eg = 0
            rotate_left
            · rw [decide_eq_false heg] at hg
              simp only [Bool.false_and] at hg
              have e3 := bne_t heg
              clear heg
              subst hg
              rcases hkk with ⟨b1, b2, b3⟩ | ⟨b1, b2, b3⟩
              all_goals
                go_wp2_with ((go_at_call 25; refine (HIN.out _ (HBE.out.below HBG.out)).mono ?_; rintro e w7 ⟨rfl, rfl⟩))
                go_ret
                exact ⟨rfl, HBG.out⟩
            subst heg
            rw [decide_eq_true rfl, Bool.true_and] at hg
            by_cases hfr : fr.toList = ky.toList
            rotate_left
            · rw [decide_eq_false hfr, Bool.false_and] at hg
              have e3 : (fr.toList == ky.toList) = false := beq_eq_false_iff_ne.2 hfr
              clear hfr
              subst hg
              rcases hkk with ⟨b1, b2, b3⟩ | ⟨b1, b2, b3⟩
              all_goals
                go_wp2_with ((go_at_call 25; refine (HIN.out _ (HBE.out.below HBG.out)).mono ?_; rintro e w7 ⟨rfl, rfl⟩))
                go_ret
                exact ⟨rfl, HBG.out⟩
            rw [decide_eq_true hfr, Bool.true_and] at hg
            have e3 : (fr.toList == ky.toList) = true := beq_iff_eq.2 hfr
            have HG4 := Lib.hid (show q = slead ws ne high lw below (if k + 1 = 0 then none else some ky) (sl.drop (k + 1)) by rw [if_neg (by omega)]; exact hg)
            clear hfr hg
            rcases hkk with ⟨b1, b2, b3⟩ | ⟨b1, b2, b3⟩
            all_goals
              go_wp2_with ((go_at_call 25; refine (HIN.out _ (HBE.out.below HBG.out)).mono ?_; rintro e w7 ⟨rfl, rfl⟩))
              go_roundw
              case rel => exact ⟨k + 1, _, by omega, by go_num, rfl, HG4, HB6⟩
              case measure => simp [intOf]; omega
    · obtain rfl : k = sl.length := by omega
      have hg := HG.out
      rw [List.drop_eq_nil_of_le (Nat.le_refl _), slead_nil] at hg
      subst hg
      go_wp2
      go_ret
      exact ⟨rfl, HBW.out⟩
/-- Are a level's nodes as they are to be? -/
def levOk (ws below : List Int) : Bool → ByteArray → List Int → Bool
  | _, _, [] => true
  | f, last, b :: t => nodeLead ws below b && (if f = true then decide ((nodeRead ws b).1.low = 0) else ltS last (lowRead ws b).1) && levOk ws below false (lowRead ws b).1 t
theorem levOk_nil (ws below : List Int) (f : Bool) (last : ByteArray) : levOk ws below f last [] = true := rfl
theorem levOk_cons (ws below : List Int) (f : Bool) (last : ByteArray) (b : Int) (t : List Int) : levOk ws below f last (b :: t) = (nodeLead ws below b && (if f = true then decide ((nodeRead ws b).1.low = 0) else ltS last (lowRead ws b).1) && levOk ws below false (lowRead ws b).1 t) := rfl
theorem rlevel15_any (A : Option Addr) (c : Nat) (ws : List Int) (L : Option Addr) (nl cl : Nat) (l : List Int) (B : Option Addr) (m d : Nat) (below : List Int) (w : World) (h : RI w A ws.length ws) (hn : ws.length ≤ 60000) (hc : ws.length ≤ c) (hL : RI w L nl l) (hnl : nl ≤ 1000000) (hB : RI w B m below) (hm : m ≤ 1000000) :
    Calls Try.prog 66 #[.slice A ws.length c, .slice L nl cl, .slice B m d] w fun e w' => e = .returned (.bool (levOk ws below true ⟨#[]⟩ l && decide (nl ≠ 0))) ∧ Below w.heap.size w w' := by
  have HC := Lib.hid h
  have HBE := Lib.hid hB
  have HL := Lib.hid hL
  have HLL := Lib.hid hL.len
  have HND := Lib.hid (fun x W hW => rnode_any A c ws x W hW hn hc)
  have HLO := Lib.hid (fun x W hW => rlow_any A c ws x W hW hn hc)
  have HNO := Lib.hid (fun x W hW hW2 => rnode15_any A c ws x B m d below W hW hn hc hW2 hm)
  clear h hB hL
  unfold NodePost at HND
  obtain ⟨q, hq⟩ : ∃ q, q = levOk ws below true ⟨#[]⟩ l := ⟨_, rfl⟩
  rw [← hq]
  have HQ := Lib.hid hq
  clear hq
  go_enter Try.func66, Try.ntmps66
  go_wp2
  go_loopw [7, 8] (fun la i wr => ∃ (k : Nat) (last : ByteArray), k ≤ nl ∧ i = .int .i64 k ∧ la = .string last ∧ Hid (q = levOk ws below (k == 0) last (l.drop k)) ∧ Hid (Below w.heap.size w wr)) (fun _ i _ => nl - (intOf i).toNat)
  case atStart => exact ⟨0, ⟨#[]⟩, by omega, rfl, rfl, HQ, Lib.hid (Below.refl _ _)⟩
  case round =>
    obtain ⟨k, last, hk, rfl, rfl, HG, HB⟩ := hrel
    by_cases hlt : k < nl
    · obtain ⟨ad, b, rfl, hb, hx, hat⟩ := HL.out.at_ hlt
      have hdr : l.drop k = b :: l.drop (k + 1) := dropK hx
      have hg := HG.out
      rw [hdr, levOk_cons] at hg
      have hbl : (ad.add k).block < w.heap.size := by unfold Addr.add; split <;> exact hb
      have HCK := Lib.hid (fun W (h : Below w.heap.size w W) => (h.cell (p := ad.add k) hbl).trans hat)
      have HN := Lib.hid (HND.out b)
      have HLW := Lib.hid (HLO.out b)
      have HNL := Lib.hid (HNO.out b)
      clear hx hdr hbl hat
      generalize nodeLead ws below b = wh at hg HNL
      generalize lowRead ws b = lr at hg HLW
      obtain ⟨lw, el⟩ := lr
      generalize nodeRead ws b = nd at hg HN
      obtain ⟨⟨lv, tu, ne, lo, sl⟩, en⟩ := nd
      simp only at hg HN
      obtain ⟨pk, hpk⟩ : ∃ pk : Bool, pk = (if (k == 0) = true then decide (lo = 0) else ltS last lw) := ⟨_, rfl⟩
      rw [← hpk] at hg
      have HKK := Lib.hid (show (((k : Int) == 0) = true ∧ ¬ (0 : Int) < (k : Int) ∧ (lo != 0) = !pk) ∨ (((k : Int) == 0) = false ∧ (0 : Int) < (k : Int) ∧ Op.bytesLess last.toList lw.toList = pk) by
        by_cases hk0 : k = 0
        · left
          rw [if_pos (by simpa using hk0)] at hpk
          exact ⟨by rw [beq_iff_eq]; omega, by omega, by rw [hpk, bne]; by_cases h : lo = 0 <;> simp [h]⟩
        · right
          rw [if_neg (by simpa using hk0)] at hpk
          exact ⟨by rw [beq_eq_false_iff_ne]; omega, by omega, by rw [hpk]; rfl⟩)
      have HG2 := Lib.hid hg
      have hcw := HCK.out _ HB.out
      clear hg hpk
      go_upto_region 6 with ((go_at_call 41; refine (HN.out _ (HC.out.below HB.out)).mono ?_; rintro e w3 ⟨v3, rfl, hR3, hB3⟩; obtain ⟨A3, c3, rfl⟩ := Kd.R_slice hR3))
      have HROW := Lib.hid (heap_alloc_new w3 (.cells #[.int .i64 lv, .int .i64 tu, .int .i64 ne, .int .i64 lo, .slice A3 sl.length c3] 24))
      have HB4 := Lib.hid ((HB.out.next hB3).alloc (HB.out.next hB3).size (.cells #[.int .i64 lv, .int .i64 tu, .int .i64 ne, .int .i64 lo, .slice A3 sl.length c3] 24))
      have hl4 : w3.heap.size < (w3.alloc (.cells #[.int .i64 lv, .int .i64 tu, .int .i64 ne, .int .i64 lo, .slice A3 sl.length c3] 24)).heap.size := by simp
      generalize w3.alloc (.cells #[.int .i64 lv, .int .i64 tu, .int .i64 ne, .int .i64 lo, .slice A3 sl.length c3] 24) = w4 at HROW HB4 hl4 ⊢
      have hc4 := HCK.out _ HB4.out
      clear hR3 hB3
      go_upto_region 7 with ((go_at_call 42; refine (HLW.out _ (HC.out.below HB4.out)).mono ?_; rintro e w5 ⟨rfl, hB5⟩))
      have HB5 := Lib.hid (HB4.out.next hB5)
      have HROW5 := Lib.hid ((hB5.block _ hl4).trans HROW.out)
      have hc5 := HCK.out _ HB5.out
      have hl5 : w3.heap.size < w5.heap.size := (Array.getElem?_eq_some_iff.1 HROW5.out).1
      clear hB5 hc4
      go_upto_region 8 with ((go_at_call 97; refine (HNL.out _ (HC.out.below HB5.out) (HBE.out.below HB5.out)).mono ?_; rintro e w6 ⟨rfl, hB6⟩))
      have HB6 := Lib.hid (HB5.out.next hB6)
      have hc6 := cell_of_row _ _ 3 _ _ _ ((hB6.block _ hl5).trans HROW5.out)
      clear hB6 hc5
      have hg := HG2.out
      have hkk := HKK.out
      cases wh with
      | false =>
        simp only [Bool.false_and] at hg
        subst hg
        go_wp2_with fail
        go_ret
        exact ⟨by rw [Bool.false_and]; rfl, HB6.out⟩
      | true =>
        rw [Bool.true_and] at hg
        cases pk with
        | false =>
          simp only [Bool.false_and] at hg
          subst hg
          rcases hkk with ⟨b1, b2, b3⟩ | ⟨b1, b2, b3⟩
          all_goals
            go_wp2_with fail
            go_ret
            exact ⟨by rw [Bool.false_and]; rfl, HB6.out⟩
        | true =>
          rw [Bool.true_and] at hg
          have HG4 := Lib.hid (show q = levOk ws below (k + 1 == 0) lw (l.drop (k + 1)) from hg)
          clear hg
          rcases hkk with ⟨b1, b2, b3⟩ | ⟨b1, b2, b3⟩
          all_goals
            go_wp2_with fail
            go_roundw
            case rel => exact ⟨k + 1, _, by omega, by go_num, rfl, HG4, HB6⟩
            case measure => simp [intOf]; omega
    · obtain rfl : k = nl := by omega
      have hg := HG.out
      rw [List.drop_eq_nil_of_le (by rw [HLL.out]; exact Nat.le_refl _), levOk_nil] at hg
      subst hg
      by_cases h0 : k = 0
      · subst h0
        go_wp2
        go_ret
        exact ⟨rfl, HB.out⟩
      · have hd : (true && decide (k ≠ 0)) = true := by rw [Bool.true_and]; exact decide_eq_true h0
        have hk1 : (0 : Int) < (k : Int) := by omega
        have HD := Lib.hid hd
        clear hd h0
        go_wp2
        go_ret
        exact ⟨congrArg (fun z => Ending.returned (Value.bool z)) (show decide (0 < k) = (true && decide (k ≠ 0)) by rw [HD.out]; exact decide_eq_true (by omega)), HB.out⟩
/-- The nodes of the level below some of a level. -/
def nextLev (ws : List Int) (at' : Nat) (l : List Int) : Option (List Int) :=
  if (nodeRead ws (l.getD 0 0)).1.slots.length = 0 then none
  else if (recRead ws ((nodeRead ws (l.getD 0 0)).1.slots.getD 0 0)).2 = 0 then
    (if at' = 1 then (if (recRead ws ((nodeRead ws (l.getD 0 0)).1.slots.getD 0 0)).1.child = 1 then some (leavesAns ws).1 else none)
     else levRead ws (recRead ws ((nodeRead ws (l.getD 0 0)).1.slots.getD 0 0)).1.child ((at' : Int) - 1))
  else none
def sndGo (ws : List Int) : Nat → List Int → Bool
  | 0, _ => true
  | a + 1, l => match nextLev ws (a + 1) l with
    | none => false
    | some nx => levOk ws nx true ⟨#[]⟩ l && sndGo ws a nx
/-- Is an arena's index sound? -/
def soundRead (ws : List Int) : Bool :=
  if checkRead ws = 0 then
    (if (nodeRead ws (superRead ws).2.1).2 = 0 then
      (if (nodeRead ws (superRead ws).2.1).1.level = 0 then decide ((superRead ws).2.1 = 1)
       else match levRead ws (superRead ws).2.1 (nodeRead ws (superRead ws).2.1).1.level with
        | some l => sndGo ws (nodeRead ws (superRead ws).2.1).1.level.toNat l
        | none => false)
     else decide ((superRead ws).2.1 = 1))
  else false
theorem levGo_ne (ws : List Int) (lv : Int) : ∀ (n : Nat) (out : List Int) (b : Int) (l : List Int), levGo ws lv n out b = some l → (out ≠ [] ∨ b ≠ 0) → l ≠ []
  | 0, out, b, l, h, hh => by
    unfold levGo at h
    split at h
    · injection h with h; subst h
      rcases hh with h | h
      · exact h
      · exact absurd (by assumption) h
    · cases h
  | n + 1, out, b, l, h, hh => by
    unfold levGo at h
    split at h
    · injection h with h; subst h
      rcases hh with h | h
      · exact h
      · exact absurd (by assumption) h
    · split at h
      · exact levGo_ne ws lv n _ _ l h (.inl (by simp))
      · cases h
theorem levGo_len (ws : List Int) (lv : Int) : ∀ (n : Nat) (out : List Int) (b : Int) (l : List Int), levGo ws lv n out b = some l → l.length ≤ out.length + n
  | 0, out, b, l, h => by
    unfold levGo at h
    split at h
    · injection h with h; subst h; omega
    · cases h
  | n + 1, out, b, l, h => by
    unfold levGo at h
    split at h
    · injection h with h; subst h; omega
    · split at h
      · have := levGo_len ws lv n _ _ l h
        simp at this
        omega
      · cases h
theorem levRead_len {ws : List Int} {b lv : Int} {l : List Int} (h : levRead ws b lv = some l) : l.length ≤ ws.length / 16 + 1 := by
  have := levGo_len ws lv _ _ _ l h
  simpa using this
theorem levOk_ne {ws below l : List Int} {f : Bool} {last : ByteArray} (h : levOk ws below f last l = true) (hl : l ≠ []) : below ≠ [] := by
  obtain ⟨b, t, rfl⟩ := List.exists_cons_of_ne_nil hl
  rw [levOk_cons] at h
  simp only [Bool.and_eq_true] at h
  have hn := h.1.1
  unfold nodeLead at hn
  simp only [Bool.and_eq_true, decide_eq_true_eq] at hn
  have hs := hn.2
  obtain ⟨s, u, hsl⟩ := List.exists_cons_of_ne_nil (show (nodeRead ws b).1.slots ≠ [] from fun e => hn.1.2 (by rw [e]; rfl))
  rw [hsl, slead_cons] at hs
  simp only [Bool.and_eq_true] at hs
  rintro rfl
  simp at hs
theorem check_super {ws : List Int} (h : checkRead ws = 0) : (superRead ws).2.2 = 0 := by
  unfold checkRead lookRead leavesRead at h
  by_cases h0 : (superRead ws).2.2 = 0
  · exact h0
  · rw [if_neg h0] at h; simp at h
theorem super_root {ws : List Int} (h : (superRead ws).2.2 = 0) : 1 ≤ (superRead ws).2.1 := by
  unfold superRead at h ⊢
  split at h
  · simp at h
  · rename_i h1
    rw [if_neg h1]
    split at h
    · rename_i h2
      rw [if_pos h2]
      have := h2.2.2.1
      unfold superMay at this
      simp only [Bool.and_eq_true, decide_eq_true_eq] at this
      exact this.1.2
    · simp at h
theorem leaves_ln_ (ws : List Int) : (leavesAns ws).1.length ≤ ws.length / 16 + 1 := by
  cases hl : leavesRead ws with
  | none => rw [leavesAns_none hl]; exact Nat.zero_le _
  | some l => rw [leavesAns_some hl]; exact leaves_len hl
theorem nodeRead_parts_ (ws : List Int) (b : Int) : (nodeRead ws b).2 = 0 → 0 ≤ (nodeRead ws b).1.level ∧ (nodeRead ws b).1.level ≤ 9 := by
  intro h
  unfold nodeRead at h ⊢
  by_cases h0 : b < 0
  · rw [if_pos h0] at h; cases h
  rw [if_neg h0] at h ⊢
  by_cases h1 : (ws.length : Int) / 16 ≤ b
  · rw [if_pos h1] at h; cases h
  rw [if_neg h1] at h ⊢
  unfold nodeRead16 at h ⊢
  split
  · rename_i h2
    exact (ok_parts h2.1).1
  · rename_i h2; rw [if_neg h2] at h; cases h
theorem r15sound_any (A : Option Addr) (c : Nat) (ws : List Int) (w : World) (h : RI w A ws.length ws) (hn : ws.length ≤ 60000) (hc : ws.length ≤ c) :
    Calls Try.prog 30 #[.slice A ws.length c] w fun e w' => e = .returned (.bool (soundRead ws)) ∧ Below w.heap.size w w' := by
  have HC := Lib.hid h
  have HCK := Lib.hid (rchk_any A c ws w h hn hc)
  have HSU := Lib.hid (fun W hW => rsread_any A c ws W hW hn hc)
  have HND := Lib.hid (fun x W hW => rnode_any A c ws x W hW hn hc)
  have HRD := Lib.hid (fun x W hW => rrec_any A c ws x W hW hn hc)
  have HCH := Lib.hid (fun x y W hW => rchain_any A c ws x y W hW hn hc)
  have HLV := Lib.hid (fun W hW => rleaves_any A c ws W hW hn hc)
  have HLE := Lib.hid (fun L nl cl l B m d below W (hW : RI W A ws.length ws) hL hnl hB hm => rlevel15_any A c ws L nl cl l B m d below W hW hn hc hL hnl hB hm)
  clear h
  rw [rcheck_is] at HCK
  unfold NodePost at HND
  unfold RecPost at HRD
  unfold OwnTwoB at HCH
  unfold OwnTwoR at HLV
  obtain ⟨z, hz⟩ : ∃ z, z = soundRead ws := ⟨_, rfl⟩
  rw [← hz]
  unfold soundRead at hz
  have hsup := @check_super ws
  have hroot := @super_root ws
  generalize checkRead ws = ck at HCK hz hsup
  by_cases hck : ck = 0
  rotate_left
  · rw [if_neg hck] at hz
    have e1 := bne_t hck
    subst hz
    clear hck hsup hroot
    go_enter Try.func30, Try.ntmps30
    go_wp2_with ((go_at_call 62; refine HCK.out.mono ?_; rintro e w1 ⟨rfl, hB1⟩))
    go_ret
    exact ⟨rfl, hB1⟩
  rw [if_pos hck] at hz
  subst hck
  have hr1 := hroot (hsup rfl)
  clear hsup hroot
  generalize superRead ws = sr at HSU hz hr1
  obtain ⟨s1, root, s3⟩ := sr
  simp only at hz hr1 HSU
  have HN := Lib.hid (HND.out root)
  have hparts := nodeRead_parts_ ws root
  generalize nodeRead ws root = nd at HN hz hparts
  obtain ⟨⟨lv, tu, ne, lo, sl⟩, er⟩ := nd
  simp only at hz HN hparts
  by_cases her : er = 0
  rotate_left
  · rw [if_neg her] at hz
    have e1 := bne_t her
    clear her hr1 hparts
    by_cases h1 : root = 1
    · rw [decide_eq_true h1] at hz
      have HR1 := Lib.hid h1
      have e2 := beq_t h1
      subst hz
      clear h1
      go_enter Try.func30, Try.ntmps30
      go_wp2_with (first
        | (go_at_call 62; refine HCK.out.mono ?_; rintro e w1 ⟨rfl, hB1⟩)
        | (go_at_call 63; refine (HSU.out _ (HC.out.below hB1)).mono ?_; rintro e w2 ⟨rfl, hB2⟩)
        | (go_at_call 41; refine (HN.out _ (HC.out.below (hB1.next hB2))).mono ?_; rintro e w3 ⟨v3, rfl, hR3, hB3⟩; obtain ⟨A1, c1, rfl⟩ := Kd.R_slice hR3))
      go_ret
      exact ⟨rfl, ((hB1.next hB2).next hB3).alloc ((hB1.next hB2).next hB3).size _⟩
    · rw [decide_eq_false h1] at hz
      have e2 := beq_f h1
      subst hz
      clear h1
      go_enter Try.func30, Try.ntmps30
      go_wp2_with (first
        | (go_at_call 62; refine HCK.out.mono ?_; rintro e w1 ⟨rfl, hB1⟩)
        | (go_at_call 63; refine (HSU.out _ (HC.out.below hB1)).mono ?_; rintro e w2 ⟨rfl, hB2⟩)
        | (go_at_call 41; refine (HN.out _ (HC.out.below (hB1.next hB2))).mono ?_; rintro e w3 ⟨v3, rfl, hR3, hB3⟩; obtain ⟨A1, c1, rfl⟩ := Kd.R_slice hR3))
      go_ret
      exact ⟨rfl, ((hB1.next hB2).next hB3).alloc ((hB1.next hB2).next hB3).size _⟩
  subst her
  rw [if_pos rfl] at hz
  by_cases hlv : lv = 0
  · subst hlv
    rw [if_pos rfl] at hz
    clear hr1 hparts
    by_cases h1 : root = 1
    · rw [decide_eq_true h1] at hz
      have e2 := beq_t h1
      subst hz
      clear h1
      go_enter Try.func30, Try.ntmps30
      go_wp2_with (first
        | (go_at_call 62; refine HCK.out.mono ?_; rintro e w1 ⟨rfl, hB1⟩)
        | (go_at_call 63; refine (HSU.out _ (HC.out.below hB1)).mono ?_; rintro e w2 ⟨rfl, hB2⟩)
        | (go_at_call 41; refine (HN.out _ (HC.out.below (hB1.next hB2))).mono ?_; rintro e w3 ⟨v3, rfl, hR3, hB3⟩; obtain ⟨A1, c1, rfl⟩ := Kd.R_slice hR3))
      go_ret
      exact ⟨rfl, ((hB1.next hB2).next hB3).alloc ((hB1.next hB2).next hB3).size _⟩
    · rw [decide_eq_false h1] at hz
      have e2 := beq_f h1
      subst hz
      clear h1
      go_enter Try.func30, Try.ntmps30
      go_wp2_with (first
        | (go_at_call 62; refine HCK.out.mono ?_; rintro e w1 ⟨rfl, hB1⟩)
        | (go_at_call 63; refine (HSU.out _ (HC.out.below hB1)).mono ?_; rintro e w2 ⟨rfl, hB2⟩)
        | (go_at_call 41; refine (HN.out _ (HC.out.below (hB1.next hB2))).mono ?_; rintro e w3 ⟨v3, rfl, hR3, hB3⟩; obtain ⟨A1, c1, rfl⟩ := Kd.R_slice hR3))
      go_ret
      exact ⟨rfl, ((hB1.next hB2).next hB3).alloc ((hB1.next hB2).next hB3).size _⟩
  rw [if_neg hlv] at hz
  obtain ⟨p0, p9⟩ := hparts rfl
  have e1 := beq_f hlv
  have HCR := Lib.hid (HCH.out root lv)
  have hl0 : ∀ l, levRead ws root lv = some l → l ≠ [] := fun l h => levGo_ne ws lv _ _ _ l h (.inr (by omega))
  have hl1 : ∀ l, levRead ws root lv = some l → l.length ≤ 60000 := fun l h => by have := levRead_len h; omega
  generalize levRead ws root lv = lr at HCR hz hl0 hl1
  go_enter Try.func30, Try.ntmps30
  go_upto_region 7 with (first
    | (go_at_call 62; refine HCK.out.mono ?_; rintro e w1 ⟨rfl, hB1⟩)
    | (go_at_call 63; refine (HSU.out _ (HC.out.below hB1)).mono ?_; rintro e w2 ⟨rfl, hB2⟩)
    | (go_at_call 41; refine (HN.out _ (HC.out.below (hB1.next hB2))).mono ?_; rintro e w3 ⟨v3, rfl, hR3, hB3⟩; obtain ⟨A1, c1, rfl⟩ := Kd.R_slice hR3))
  have HROW := Lib.hid (heap_alloc_new w3 (.cells #[.int .i64 lv, .int .i64 tu, .int .i64 ne, .int .i64 lo, .slice A1 sl.length c1] 24))
  have HB4 := Lib.hid (((hB1.next hB2).next hB3).alloc ((hB1.next hB2).next hB3).size (.cells #[.int .i64 lv, .int .i64 tu, .int .i64 ne, .int .i64 lo, .slice A1 sl.length c1] 24))
  have hl4 : w3.heap.size < (w3.alloc (.cells #[.int .i64 lv, .int .i64 tu, .int .i64 ne, .int .i64 lo, .slice A1 sl.length c1] 24)).heap.size := by simp
  generalize w3.alloc (.cells #[.int .i64 lv, .int .i64 tu, .int .i64 ne, .int .i64 lo, .slice A1 sl.length c1] 24) = w4 at HROW HB4 hl4 ⊢
  have m0 := cell_of_row _ _ 0 _ _ _ HROW.out
  clear hR3 hB1 hB2 hB3 hr1
  go_upto_region 8 with ((go_at_call 64; refine (HCR.out _ (HC.out.below HB4.out)).mono ?_; rintro e w5 ⟨v5, rfl, ho5, hB5⟩; obtain ⟨A5, c5, rfl, hc5, hri5⟩ := own_cap ho5))
  have HB5 := Lib.hid (HB4.out.next hB5)
  have m1 := cell_of_row _ _ 0 _ _ _ ((hB5.block _ hl4).trans HROW.out)
  have HR5 := Lib.hid hri5
  clear m0 ho5 hB5 hri5 hc5
  cases lr with
  | none =>
    simp only at hz
    subst hz
    simp only [levAns]
    go_wp2_with fail
    go_loopw [10] (fun _ wr => wr = w5) (fun _ _ => 0)
    case atStart => exact rfl
    case round =>
      obtain rfl := hrel
      go_wp2
      go_ret
      exact ⟨rfl, HB5.out⟩
  | some l =>
    have hlne := hl0 l rfl
    have hlen := hl1 l rfl
    simp only [levAns] at hz HR5 ⊢
    obtain ⟨a, ha⟩ : ∃ a : Nat, lv = (a : Int) := Int.eq_ofNat_of_zero_le p0
    subst ha
    rw [Int.toNat_natCast] at hz
    have HZ := Lib.hid hz
    have HNE := Lib.hid (show l ≠ [] ∧ l.length ≤ 60000 from ⟨hlne, hlen⟩)
    clear hl0 hl1 hz hlne hlen HROW hl4 e1
    go_wp2_with fail
    go_loopw [8, 10] (fun v8 atv wr => ∃ (a : Nat) (l : List Int) (L : Option Addr) (cl : Nat), a ≤ 9 ∧ atv = .int .i64 a ∧ v8 = .slice L l.length cl ∧ Hid (RI wr L l.length l) ∧ Hid (z = sndGo ws a l) ∧ Hid (l ≠ [] ∧ l.length ≤ 60000) ∧ Hid (Below w.heap.size w wr)) (fun _ a _ => (intOf a).toNat)
    case atStart => exact ⟨a, l, A5, c5, by omega, rfl, rfl, HR5, HZ, HNE, HB5⟩
    case round =>
      obtain ⟨a, l, L, cl, ha9, rfl, rfl, HR, HZ, HNE, HB⟩ := hrel
      rcases Nat.eq_zero_or_pos a with ha0 | ha0
      · subst ha0
        have hz : z = true := HZ.out
        subst hz
        clear HZ
        go_wp2
        go_ret
        exact ⟨rfl, HB.out⟩
      obtain ⟨m, hm⟩ : ∃ m, a = m + 1 := ⟨a - 1, by omega⟩
      have hz := HZ.out
      clear HZ
      rw [hm, sndGo, ← hm] at hz
      unfold nextLev at hz
      have hgt : (0 : Int) < (a : Int) := by omega
      have hw1 : IntKind.i64.wrap ((a : Int) - 1) = (m : Int) := by rw [IntKind.wrap_i64]; omega
      have ham : (a : Int) - 1 = (m : Int) := by omega
      rw [ham] at hz
      obtain ⟨hne, hln⟩ := HNE.out
      obtain ⟨ad, b, rfl, hb, hx, hat⟩ := HR.out.at_ (k := 0) (by cases l with | nil => exact absurd rfl hne | cons x t => simp)
      rw [Addr.add_zero'] at hat
      have hb0 : l.getD 0 0 = b := by rw [List.getD_eq_getElem?_getD, hx]; rfl
      rw [hb0] at hz
      have i0 : (0 : Int) < (l.length : Int) := by cases l with | nil => exact absurd rfl hne | cons x t => simp
      have HN3 := Lib.hid (HND.out b)
      have hs13 := nodeRead_slots_ ws b
      clear hb0 hx hb HN
      generalize nodeRead ws b = nd at hz HN3 hs13
      obtain ⟨⟨lv3, tu3, ne3, lo3, sl⟩, en3⟩ := nd
      simp only at hz hs13 HN3
      go_upto_region 12 with ((go_at_call 41; refine (HN3.out _ (HC.out.below HB.out)).mono ?_; rintro e w6 ⟨v6, rfl, hR6, hB6⟩; obtain ⟨A3, c3, rfl, _, hC6⟩ := Kd.R_reads hR6))
      have HROW := Lib.hid (heap_alloc_new w6 (.cells #[.int .i64 lv3, .int .i64 tu3, .int .i64 ne3, .int .i64 lo3, .slice A3 sl.length c3] 24))
      have HB7 := Lib.hid ((HB.out.next hB6).alloc (HB.out.next hB6).size (.cells #[.int .i64 lv3, .int .i64 tu3, .int .i64 ne3, .int .i64 lo3, .slice A3 sl.length c3] 24))
      have HBY7 := Lib.hid (hB6.alloc hB6.size (.cells #[.int .i64 lv3, .int .i64 tu3, .int .i64 ne3, .int .i64 lo3, .slice A3 sl.length c3] 24))
      have HSL := Lib.hid (RI_of_C (Kd.C_alloc hC6 (.cells #[.int .i64 lv3, .int .i64 tu3, .int .i64 ne3, .int .i64 lo3, .slice A3 sl.length c3] 24)))
      generalize w6.alloc (.cells #[.int .i64 lv3, .int .i64 tu3, .int .i64 ne3, .int .i64 lo3, .slice A3 sl.length c3] 24) = w7 at HROW HB7 HBY7 HSL ⊢
      have m4 := cell_of_row _ _ 4 _ _ _ HROW.out
      clear hR6 hC6 hB6 hat
      by_cases hsl : sl.length = 0
      · rw [if_pos hsl] at hz
        simp only at hz
        have e1 : ((sl.length : Int) == 0) = true := by rw [beq_iff_eq]; omega
        subst hz
        clear hsl
        go_wp2_with fail
        go_ret
        exact ⟨rfl, HB7.out⟩
      rw [if_neg hsl] at hz
      have e1 : ((sl.length : Int) == 0) = false := by rw [beq_eq_false_iff_ne]; omega
      obtain ⟨ad3, s0, rfl, hb3, hx3, hat3⟩ := HSL.out.at_ (k := 0) (by omega)
      rw [Addr.add_zero'] at hat3
      have hs0 : sl.getD 0 0 = s0 := by rw [List.getD_eq_getElem?_getD, hx3]; rfl
      rw [hs0] at hz
      have j0 : (0 : Int) < (sl.length : Int) := by omega
      have HX := Lib.hid (HRD.out s0)
      clear hs0 hx3 hb3 hsl
      generalize recRead ws s0 = rc at hz HX
      obtain ⟨⟨kd, ky, va, ch⟩, ex⟩ := rc
      simp only at hz HX
      go_upto_region 15 with ((go_at_call 43; refine (HX.out _ (HC.out.below HB7.out)).mono ?_; rintro e w8 ⟨rfl, hB8⟩))
      have HROWX := Lib.hid (heap_alloc_new w8 (.cells #[.int .i64 kd, .string ky, .string va, .int .i64 ch] 62))
      have HBX0 := Lib.hid ((HB7.out.next hB8).alloc (HB7.out.next hB8).size (.cells #[.int .i64 kd, .string ky, .string va, .int .i64 ch] 62))
      have HBY0 := Lib.hid ((HBY7.out.next hB8).alloc (HBY7.out.next hB8).size (.cells #[.int .i64 kd, .string ky, .string va, .int .i64 ch] 62))
      have hl8 : w8.heap.size < (w8.alloc (.cells #[.int .i64 kd, .string ky, .string va, .int .i64 ch] 62)).heap.size := by simp
      generalize w8.alloc (.cells #[.int .i64 kd, .string ky, .string va, .int .i64 ch] 62) = wa at HROWX HBX0 HBY0 hl8 ⊢
      have x3 := cell_of_row _ _ 3 _ _ _ HROWX.out
      clear hB8 m4 hat3 HROW
      have HCR3 := Lib.hid (HCH.out ch m)
      have hrl : ∀ l, levRead ws ch m = some l → l.length ≤ 60000 := fun l h => by have := levRead_len h; omega
      generalize levRead ws ch m = lr at hz HCR3 hrl
      go_upto_region 16 with ((go_at_call 64; refine (HCR3.out _ (HC.out.below HBX0.out)).mono ?_; rintro e wb ⟨vb, rfl, hob, hBb⟩; obtain ⟨Ab, cb, rfl, hcb, hrib⟩ := own_cap hob))
      have HBX := Lib.hid (HBX0.out.next hBb)
      have HBY := Lib.hid (HBY0.out.next hBb)
      have HRN := Lib.hid hrib
      have HROWB := Lib.hid ((hBb.block _ hl8).trans HROWX.out)
      have y3 := cell_of_row _ _ 3 _ _ _ HROWB.out
      have hlb : w8.heap.size < wb.heap.size := (Array.getElem?_eq_some_iff.1 HROWB.out).1
      clear hob hBb hrib hcb x3
      by_cases hm0 : m = 0
      · subst hm0
        have ha1 : ((a : Int) == 1) = true := by rw [beq_iff_eq]; omega
        rw [if_pos (show a = 1 by omega)] at hz
        have hnx := leaves_ln_ ws
        have HLV1 := Lib.hid (HLV.out)
        generalize leavesAns ws = la at hz hnx HLV1
        obtain ⟨NX, eL⟩ := la
        simp only at hz hnx HLV1
        have hnx2 : NX.length ≤ 60000 := by omega
        go_upto_region 19 with ((go_at_call 65; refine (HLV1.out _ (HC.out.below HBX.out)).mono ?_; rintro e wc ⟨vc, rfl, hoc, hBc⟩; obtain ⟨Ac, cc, rfl, hcc, hric⟩ := own_cap hoc; have hy3 := cell_of_row _ _ 3 _ _ _ ((hBc.block _ hlb).trans HROWB.out)))
        have HBX2 := Lib.hid (HBX.out.next hBc)
        have HBY2 := Lib.hid (HBY.out.next hBc)
        have HRN2 := Lib.hid hric
        clear hoc hBc hric hcc y3 hy3 HRN hnx
        by_cases hch : ch = 1
        rotate_left
        · have hcf := beq_f hch
          rw [if_neg hch, show (if ex = 0 then (none : Option (List Int)) else none) = none by split <;> rfl] at hz
          simp only at hz
          subst hz
          rw [hcf]
          clear hch
          by_cases hex : ex = 0
          · have e3 := bne_f hex
            clear hex
            go_wp2_with fail
            go_ret
            exact ⟨rfl, HBX2.out⟩
          · have e3 := bne_t hex
            clear hex
            go_wp2_with fail
            go_ret
            exact ⟨rfl, HBX2.out⟩
        have hcf := beq_t hch
        rw [if_pos hch] at hz
        clear hch
        obtain ⟨q, hq⟩ : ∃ q, q = levOk ws NX true ⟨#[]⟩ l := ⟨_, rfl⟩
        have hfull : (levOk ws NX true ⟨#[]⟩ l && decide (l.length ≠ 0)) = q := by rw [hq, decide_eq_true (show l.length ≠ 0 by omega), Bool.and_true]
        have HF := Lib.hid hfull
        have HQN := Lib.hid (fun (h : q = true) => levOk_ne (hq ▸ h) hne)
        clear hfull
        rw [hcf]
        by_cases hex : ex = 0
        · have e3 := bne_f hex
          rw [if_pos hex] at hz
          simp only at hz
          rw [← hq] at hz
          clear hex hq
          cases q with
          | false =>
            rw [Bool.false_and] at hz
            subst hz
            go_wp2_with ((go_at_call 66; refine (HLE.out _ _ _ l _ _ _ NX _ (HC.out.below HBX2.out) (HR.out.below HBY2.out) (by omega) HRN2.out (by omega)).mono ?_; rw [HF.out]; rintro e w9 ⟨rfl, hB9⟩))
            go_ret
            exact ⟨rfl, HBX2.out.next hB9⟩
          | true =>
            rw [Bool.true_and] at hz
            have HZ2 := Lib.hid hz
            clear hz
            go_wp2_with ((go_at_call 66; refine (HLE.out _ _ _ l _ _ _ NX _ (HC.out.below HBX2.out) (HR.out.below HBY2.out) (by omega) HRN2.out (by omega)).mono ?_; rw [HF.out]; rintro e w9 ⟨rfl, hB9⟩))
            go_roundw
            case rel => exact ⟨0, NX, Ac, cc, by omega, rfl, rfl, Lib.hid (HRN2.out.below hB9), HZ2, Lib.hid ⟨HQN.out trivial, hnx2⟩, Lib.hid (HBX2.out.next hB9)⟩
            case measure => simp [intOf]; omega
        · have e3 := bne_t hex
          rw [if_neg hex] at hz
          simp only at hz
          subst hz
          clear hex hq
          go_wp2_with ((go_at_call 66; refine (HLE.out _ _ _ l _ _ _ NX _ (HC.out.below HBX2.out) (HR.out.below HBY2.out) (by omega) HRN2.out (by omega)).mono ?_; rw [HF.out]; rintro e w9 ⟨rfl, hB9⟩))
          go_ret
          exact ⟨rfl, HBX2.out.next hB9⟩
      · have ha1 : ((a : Int) == 1) = false := by rw [beq_eq_false_iff_ne]; omega
        rw [if_neg (show ¬ a = 1 by omega)] at hz
        cases lr with
        | none =>
          rw [show (if ex = 0 then (none : Option (List Int)) else none) = none by split <;> rfl] at hz
          simp only at hz
          subst hz
          simp only [levAns]
          by_cases hex : ex = 0
          · have e3 := bne_f hex
            clear hex
            go_wp2_with fail
            go_ret
            exact ⟨rfl, HBX.out⟩
          · have e3 := bne_t hex
            clear hex
            go_wp2_with fail
            go_ret
            exact ⟨rfl, HBX.out⟩
        | some NX =>
          have hnx := hrl NX rfl
          simp only [levAns] at HRN ⊢
          obtain ⟨q, hq⟩ : ∃ q, q = levOk ws NX true ⟨#[]⟩ l := ⟨_, rfl⟩
          have hfull : (levOk ws NX true ⟨#[]⟩ l && decide (l.length ≠ 0)) = q := by rw [hq, decide_eq_true (show l.length ≠ 0 by omega), Bool.and_true]
          have HF := Lib.hid hfull
          have HQN := Lib.hid (fun (h : q = true) => levOk_ne (hq ▸ h) hne)
          clear hfull
          by_cases hex : ex = 0
          · have e3 := bne_f hex
            rw [if_pos hex] at hz
            simp only at hz
            rw [← hq] at hz
            clear hex hq
            cases q with
            | false =>
              rw [Bool.false_and] at hz
              subst hz
              go_wp2_with ((go_at_call 66; refine (HLE.out _ _ _ l _ _ _ NX _ (HC.out.below HBX.out) (HR.out.below HBY.out) (by omega) HRN.out (by omega)).mono ?_; rw [HF.out]; rintro e w9 ⟨rfl, hB9⟩))
              go_ret
              exact ⟨rfl, HBX.out.next hB9⟩
            | true =>
              rw [Bool.true_and] at hz
              have HZ2 := Lib.hid hz
              clear hz
              go_wp2_with ((go_at_call 66; refine (HLE.out _ _ _ l _ _ _ NX _ (HC.out.below HBX.out) (HR.out.below HBY.out) (by omega) HRN.out (by omega)).mono ?_; rw [HF.out]; rintro e w9 ⟨rfl, hB9⟩))
              go_roundw
              case rel => exact ⟨m, NX, Ab, cb, by omega, rfl, rfl, Lib.hid (HRN.out.below hB9), HZ2, Lib.hid ⟨HQN.out trivial, hnx⟩, Lib.hid (HBX.out.next hB9)⟩
              case measure => simp [intOf]; omega
          · have e3 := bne_t hex
            rw [if_neg hex] at hz
            simp only at hz
            subst hz
            clear hex hq
            go_wp2_with ((go_at_call 66; refine (HLE.out _ _ _ l _ _ _ NX _ (HC.out.below HBX.out) (HR.out.below HBY.out) (by omega) HRN.out (by omega)).mono ?_; rw [HF.out]; rintro e w9 ⟨rfl, hB9⟩))
            go_ret
            exact ⟨rfl, HBX.out.next hB9⟩
end Go.Proofs.Ytliaemoomhfcdaa
