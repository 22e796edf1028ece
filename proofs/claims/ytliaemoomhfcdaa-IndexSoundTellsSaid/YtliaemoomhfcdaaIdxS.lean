/- The walks of the program's index: a level's nodes, a node that leads to the level below, the level below, and whether an index is sound. -/
import Derived.Test.YtliaemoomhfcdaaRefS
namespace Go.Proofs.Ytliaemoomhfcdaa
open Go.RowKit Go.Proofs.YtliaemoomhfcdaaW.PrintWords
set_option maxHeartbeats 2000000
set_option maxRecDepth 100000
set_option linter.unusedVariables false
set_option linter.unusedSimpArgs false
attribute [local go_sem] le_flip

def levAnsP (ws : List Int) (b lv : Int) : List Int × Bool := if b = 0 then ([], false) else levAns (levRead ws b lv)
theorem ilevel_any (A : Option Addr) (c : Nat) (ws : List Int) (b0 lv0 : Int) (w : World) (h : Kd.C (Kd.int .i64) w A ws.length ws) (hn : ws.length ≤ 60000) (hc : ws.length ≤ c) :
    Calls Try.prog 59 #[.slice A ws.length c, .int .i64 b0, .int .i64 lv0] w (OwnTwoB w (levAnsP ws b0 lv0)) := by
  have HC := Lib.hid h
  have HND := Lib.hid (fun x W hW => nodeRead_any A c ws x W hW hc (by omega))
  unfold NodePost at HND
  clear h
  by_cases hb0 : b0 = 0
  · subst hb0
    have e0 : levAnsP ws 0 lv0 = ([], false) := by unfold levAnsP; rw [if_pos rfl]
    rw [e0]
    clear HND e0
    go_enter Try.func59, Try.ntmps59
    go_wp2_with fail
    go_loopw [1, 6, 7] (fun b v o wr => b = .int .i64 0 ∧ v = .slice none 0 0 ∧ o = .bool false ∧ wr = w) (fun _ _ _ _ => 0)
    case atStart => exact ⟨rfl, rfl, rfl, rfl⟩
    case round =>
      obtain ⟨rfl, rfl, rfl, rfl⟩ := hrel
      go_wp2
      go_ret2
      exact ⟨_, rfl, World.ownsRow_nil _ _ _ _, Below.refl _ _⟩
  have hans0 : levAnsP ws b0 lv0 = levAns (levRead ws b0 lv0) := by unfold levAnsP; rw [if_neg hb0]
  rw [hans0]
  obtain ⟨r, hr⟩ : ∃ r, r = levRead ws b0 lv0 := ⟨_, rfl⟩
  rw [← hr]
  have HNONE := Lib.hid (fun (e : r = none) => (show levAns r = ([], false) by rw [e]; rfl))
  have HSOME := Lib.hid (fun l (e : r = some l) => (show levAns r = (l, true) by rw [e]; rfl))
  generalize levAns r = ans at HNONE HSOME ⊢
  unfold levRead at hr
  obtain ⟨i0, hi0, hz0, hz1, hz2⟩ := info_parts int_info
  have HR := Lib.hid hr
  have HB0 := Lib.hid hb0
  have mixed : Try.prog.follows .mixedOrders = true := by kernel_rfl
  clear hr hb0 hans0
  go_enter Try.func59, Try.ntmps59
  go_wp2_with fail
  go_loopw [1, 6, 7] (fun a v o wr => ∃ (n : Nat) (l : List Int) (at' : Int) (ok : Bool), a = .int .i64 at' ∧ o = .bool ok ∧ Hid (at' = 0 → ok = true) ∧ Hid (wr.ownsRow w.heap.size 3 1 v l.length (ints l)) ∧ Hid (Below w.heap.size w wr) ∧ Hid (r = levGo ws lv0 n l at') ∧ Hid (LeavesOk ws n l)) (fun _ v _ _ => ws.length / 16 + 1 - sliceLen v)
  case atStart => exact ⟨ws.length / 16 + 1, [], b0, false, rfl, rfl, Lib.hid (fun h => absurd h HB0.out), Lib.hid (World.ownsRow_nil _ _ _ _), Lib.hid (Below.refl _ _), HR, Lib.hid ⟨rfl, List.nodup_nil, by simp⟩⟩
  case round =>
    obtain ⟨n, l, at1, ok, rfl, rfl, HOK0, HO, HB, HG, HL⟩ := hrel
    obtain ⟨m, rfl⟩ := HL.out.pos
    obtain ⟨A2, c2, rfl, hc2, _⟩ := own_cap HO.out
    have HC2 := Lib.hid hc2
    clear hc2
    have hln : l.length ≤ 1000000000 := by have := HL.out.1; omega
    by_cases ha : at1 = 0
    · subst ha
      obtain rfl : ok = true := HOK0.out rfl
      have hg : r = some l := HG.out
      have hans := HSOME.out l hg
      subst hans
      clear hg
      go_wp2
      go_ret2
      exact ⟨_, rfl, HO.out, HB.out⟩
    have ha1 := bne_t ha
    have hg : r = if (nodeRead ws at1).2 = 0 ∧ (nodeRead ws at1).1.level = lv0 ∧ l.contains at1 = false then levGo ws lv0 m (l ++ [at1]) (nodeRead ws at1).1.next else none := by
      have := HG.out
      rw [levGo, if_neg ha] at this
      exact this
    have HN := Lib.hid (HND.out at1)
    have hrange := @nodeRead_range ws at1
    generalize nodeRead ws at1 = nd at hg HN hrange
    obtain ⟨⟨lv, tu, ne, lo, sl⟩, er⟩ := nd
    simp only at hg HN hrange
    by_cases hnode : er = 0
    rotate_left
    · rw [if_neg (fun hh => hnode hh.1)] at hg
      have hans := HNONE.out hg
      subst hans
      have e1 := bne_t hnode
      clear hg hnode ha hrange
      go_wp2_with ((go_at_call 21; refine (HN.out _ (Kd.C_below HC.out HB.out)).mono ?_; rintro e w1 ⟨v, rfl, hR, hB1⟩; obtain ⟨A1, c1, rfl⟩ := Kd.R_slice hR; have HB1 := Lib.hid (HB.out.next hB1); clear hR hB1))
      go_ret2
      exact ⟨_, rfl, World.ownsRow_nil _ _ _ _, HB1.out.alloc HB1.out.size _⟩
    subst hnode
    have HRG := Lib.hid (hrange rfl)
    clear hrange
    by_cases hlv : lv = lv0
    rotate_left
    · rw [if_neg (fun hh => hlv hh.2.1)] at hg
      have hans := HNONE.out hg
      subst hans
      have e1 := bne_t hlv
      clear hg ha hlv
      go_wp2_with ((go_at_call 21; refine (HN.out _ (Kd.C_below HC.out HB.out)).mono ?_; rintro e w1 ⟨v, rfl, hR, hB1⟩; obtain ⟨A1, c1, rfl⟩ := Kd.R_slice hR; have HB1 := Lib.hid (HB.out.next hB1); clear hR hB1))
      go_ret2
      exact ⟨_, rfl, World.ownsRow_nil _ _ _ _, HB1.out.alloc HB1.out.size _⟩
    subst hlv
    have e0 : (lv != lv) = false := bne_f rfl
    cases hct : l.contains at1 with
    | true =>
      rw [if_neg (fun hh => by rw [hct] at hh; simp at hh)] at hg
      have hans := HNONE.out hg
      subst hans
      have HCT := Lib.hid (fun W hW => contains_int A2 c2 l at1 W hW HC2.out hln)
      rw [hct] at HCT
      clear hg ha hct
      go_wp2_with (first
        | (go_at_call 21; refine (HN.out _ (Kd.C_below HC.out HB.out)).mono ?_; rintro e w1 ⟨v, rfl, hR, hB1⟩; obtain ⟨A1, c1, rfl⟩ := Kd.R_slice hR; have HB1 := Lib.hid (HB.out.next hB1); have HO1 := Lib.hid (own_below_ HO.out hB1); clear hR hB1)
        | (go_at_call 55; refine (HCT.out _ (C_of_own (own_alloc_ HO1.out _) (by omega))).mono ?_; rintro e w3 ⟨rfl, ⟨nd, rfl⟩⟩))
      go_ret2
      exact ⟨_, rfl, World.ownsRow_nil _ _ _ _, pw_below_drewN (HB1.out.alloc HB1.out.size _) _⟩
    | false =>
      rw [if_pos ⟨rfl, rfl, hct⟩] at hg
      have HG2 := Lib.hid hg
      have HCN := Lib.hid hct
      have HCT := Lib.hid (fun W hW => contains_int A2 c2 l at1 W hW HC2.out hln)
      rw [hct] at HCT
      clear hg ha hct
      go_upto_region 6 with (first
        | (go_at_call 21; refine (HN.out _ (Kd.C_below HC.out HB.out)).mono ?_; rintro e w1 ⟨v, rfl, hR, hB1⟩; obtain ⟨A1, c1, rfl⟩ := Kd.R_slice hR; have HB1 := Lib.hid (HB.out.next hB1); have HO1 := Lib.hid (own_below_ HO.out hB1); clear hR hB1)
        | (go_at_call 55; refine (HCT.out _ (C_of_own (own_alloc_ HO1.out _) (by omega))).mono ?_; rintro e w3 ⟨rfl, ⟨nd, rfl⟩⟩))
      have hfl : ((w1.alloc (.cells #[.int .i64 lv, .int .i64 tu, .int .i64 ne, .int .i64 lo, .slice A1 sl.length c1] 24)).drewN nd).cell? ⟨w1.heap.size, 2, none⟩ = some (.int .i64 ne) := (cell_of_row _ _ _ _ _ _ (heap_alloc_new w1 _)).trans rfl
      have hO2 : ((w1.alloc (.cells #[.int .i64 lv, .int .i64 tu, .int .i64 ne, .int .i64 lo, .slice A1 sl.length c1] 24)).drewN nd).ownsRow w.heap.size 3 1 (.slice A2 l.length c2) l.length (ints l) := own_alloc_ HO1.out _
      have hB2 : Below w.heap.size w ((w1.alloc (.cells #[.int .i64 lv, .int .i64 tu, .int .i64 ne, .int .i64 lo, .slice A1 sl.length c1] 24)).drewN nd) := pw_below_drewN (HB1.out.alloc HB1.out.size _) _
      have hlt2 : w1.heap.size < ((w1.alloc (.cells #[.int .i64 lv, .int .i64 tu, .int .i64 ne, .int .i64 lo, .slice A1 sl.length c1] 24)).drewN nd).heap.size := by show w1.heap.size < (w1.alloc _).heap.size; simp
      have hnb : (Value.slice A2 l.length c2).ownBlock ≠ some w1.heap.size := fun e => by have := own_lt HO1.out e; omega
      have HO2 := Lib.hid hO2
      have HB2 := Lib.hid hB2
      have HLT2 := Lib.hid hlt2
      have HNB := Lib.hid hnb
      clear hO2 hB2 hlt2 hnb HO1 HB1
      generalize (w1.alloc (.cells #[.int .i64 lv, .int .i64 tu, .int .i64 ne, .int .i64 lo, .slice A1 sl.length c1] 24)).drewN nd = W2 at hfl HO2 HB2 HLT2 ⊢
      go_region_held3 (fun w' => w'.cell? ⟨w1.heap.size, 2, none⟩ = some (.int .i64 ne))
        (first
          | go_keep
          | (rw [hgrow.cell_far _ (by simp; have := HLT2.out; omega) (Ne.symm HNB.out)]; assumption))
        ((refine step_append_lies _ (by rfl) _ _ _ (by rfl) w.heap.size 3 i0 _ 1 8 Try.underlying22 hi0 hz0 hz1 hz2 rfl (by omega) _ l.length _ (by rfl) ((HO2.out.alloc _).drew) ⟨_, 0, none⟩ 1 1 [_] (by rfl) (by rfl) (World.news_of_block (cs := #[_]) (t := 3) (fr := (0, 0)) (heap_alloc_new _ _)) (by simp [Value.oneCell']) (by omega) (by simp only [maxLen]; omega) (by omega) (by simp; have := HB2.out.size; omega) _ rfl ?_; intro gx cx w4 hownx hgrow hat hlt))
      have hone : w4.ownsRow w.heap.size 3 1 (.slice (some ⟨gx, 0, none⟩) (l.length + 1) cx) (l ++ [at1]).length (ints (l ++ [at1])) := by simpa using hownx
      have hB4 : Below w.heap.size w w4 := ((HB2.out.alloc HB2.out.size _).drew).grown hgrow (by simp; have := HB2.out.size; omega) (fun g hg => own_ge HO2.out hg)
      have hok : LeavesOk ws m (l ++ [at1]) := LeavesOk.snoc HL.out HRG.out HCN.out
      have HONE := Lib.hid hone
      have HB4 := Lib.hid hB4
      have HOK := Lib.hid hok
      have hlm : l.length + 1 ≤ ws.length / 16 + 1 := by have := HL.out.1; omega
      clear hone hB4 hok hownx hgrow hat hlt hfl
      all_goals
        go_wp2
        go_roundw
        case rel => exact ⟨m, l ++ [at1], ne, true, rfl, rfl, Lib.hid (fun _ => rfl), HONE, HB4, HG2, HOK⟩
        case measure =>
          show ws.length / 16 + 1 - (l.length + 1) < ws.length / 16 + 1 - l.length
          omega
theorem ileads_any (A : Option Addr) (c : Nat) (ws : List Int) (lv tu ne lo : Int) (A1 : Option Addr) (c1 : Nat) (sl : List Int) (low : ByteArray) (B : Option Addr) (d : Nat) (below : List Int) (w : World) (h : Kd.C (Kd.int .i64) w A ws.length ws) (hn : ws.length ≤ 60000) (hc : ws.length ≤ c) (hS : RI w A1 sl.length sl) (hs : sl.length ≤ 1000000) (hB : Kd.C (Kd.int .i64) w B below.length below) (hd : below.length ≤ d) (hm : below.length ≤ 1000000) :
    Calls Try.prog 61 #[.slice A ws.length c, .agg #[.int .i64 lv, .int .i64 tu, .int .i64 ne, .int .i64 lo, .slice A1 sl.length c1], .string low, .slice B below.length d] w fun e w' => e = .returned (.bool (slead ws ne (lowRead ws ne).1 low below none sl && decide (sl.length ≠ 0))) ∧ Below w.heap.size w w' := by
  have HC := Lib.hid h
  have HBE := Lib.hid hB
  have HD := Lib.hid hd
  have HS := Lib.hid hS
  have HRD := Lib.hid (fun x W hW => recRead_any A c ws x W hW hc (by omega))
  have HLO := Lib.hid (fun x W hW => arenaLow_any A c ws x W hW hc (by omega))
  have HCT := Lib.hid (fun x W hW => contains_int B d below x W hW hd (by omega))
  clear h hB hS hd
  unfold RecPost at HRD
  have HHI := Lib.hid (HLO.out ne)
  generalize lowRead ws ne = hr at HHI ⊢
  obtain ⟨high, eh⟩ := hr
  simp only at HHI ⊢
  obtain ⟨q, hq⟩ : ∃ q, q = slead ws ne high low below none sl := ⟨_, rfl⟩
  rw [← hq]
  have HQ := Lib.hid hq
  clear hq
  have HB1 := Lib.hid ((Below.refl w.heap.size w).alloc (Nat.le_refl _) (.cells #[.int .i64 lv, .int .i64 tu, .int .i64 ne, .int .i64 lo, .slice A1 sl.length c1] 24))
  have HROW := Lib.hid (heap_alloc_new w (.cells #[.int .i64 lv, .int .i64 tu, .int .i64 ne, .int .i64 lo, .slice A1 sl.length c1] 24))
  have hl1 : w.heap.size < (w.alloc (.cells #[.int .i64 lv, .int .i64 tu, .int .i64 ne, .int .i64 lo, .slice A1 sl.length c1] 24)).heap.size := by simp
  go_enter Try.func61, Try.ntmps61
  go_upto_region 2 with ((go_at_call 22; refine (HHI.out _ (Kd.C_below HC.out HB1.out)).mono ?_; rintro e w2 ⟨rfl, hB2⟩))
  generalize w.alloc (.cells #[.int .i64 lv, .int .i64 tu, .int .i64 ne, .int .i64 lo, .slice A1 sl.length c1] 24) = w1 at *
  have QN := Lib.hid (fun (W : World) (h : Below w2.heap.size w2 W) => (show W.cell? ⟨w.heap.size, 2, none⟩ = some (.int .i64 ne) ∧ W.cell? ⟨w.heap.size, 4, none⟩ = some (.slice A1 sl.length c1) from
    have g0 := (hB2.block _ hl1).trans HROW.out
    have g := (h.block _ (Array.getElem?_eq_some_iff.1 g0).1).trans g0
    ⟨cell_of_row _ _ 2 _ _ _ g, cell_of_row _ _ 4 _ _ _ g⟩))
  have HB2 := Lib.hid (HB1.out.next hB2)
  obtain ⟨k2, k4⟩ := QN.out _ (Below.refl _ _)
  clear hB2 HROW hl1 HB1
  go_wp2_with fail
  go_loopw [2, 27] (fun la i wr => ∃ (k : Nat) (last : ByteArray), k ≤ sl.length ∧ i = .int .i64 k ∧ la = .string last ∧ Hid (k = 0 → last = low) ∧ Hid (q = slead ws ne high low below (if k = 0 then none else some last) (sl.drop k)) ∧ Hid (Below w2.heap.size w2 wr)) (fun _ i _ => sl.length - (intOf i).toNat)
  case atStart => exact ⟨0, low, by omega, rfl, rfl, Lib.hid (fun _ => rfl), HQ, Lib.hid (Below.refl _ _)⟩
  case round =>
    obtain ⟨k, last, hk, rfl, rfl, HLA, HG, HB⟩ := hrel
    have HBW := Lib.hid (HB2.out.next HB.out)
    obtain ⟨n2, n4⟩ := QN.out _ HB.out
    clear k2 k4
    by_cases hlt : k < sl.length
    · obtain ⟨ad, s, rfl, hb, hx, hat⟩ := (HS.out.below HBW.out).at_ hlt
      have hdr : sl.drop k = s :: sl.drop (k + 1) := dropK hx
      have hg := HG.out
      rw [hdr, slead_cons] at hg
      have HX := Lib.hid (HRD.out s)
      clear hx hdr
      generalize recRead ws s = rc at hg HX
      obtain ⟨⟨kd, ky, va, ch⟩, er⟩ := rc
      simp only at hg
      have HLC := Lib.hid (HLO.out ch)
      generalize lowRead ws ch = lc at hg HLC
      obtain ⟨fr, eg⟩ := lc
      simp only at hg
      have HIN := Lib.hid (HCT.out ch)
      obtain ⟨pk, hpk⟩ : ∃ pk : Bool, pk = (if k = 0 then decide (ky.toList = low.toList) else ltS last ky) := ⟨_, rfl⟩
      replace hg : q = ((decide (ne = 0) || ltS ky high) && decide (er = 0) && decide (kd = 2) && pk && below.contains ch && decide (eg = 0) && decide (fr.toList = ky.toList) && slead ws ne high low below (some ky) (sl.drop (k + 1))) := by
        rw [hg, hpk]
        by_cases hk0 : k = 0
        · subst hk0; rfl
        · rw [if_neg hk0, if_neg hk0]
      have HKK := Lib.hid (show (((k : Int) == 0) = true ∧ ¬ (0 : Int) < (k : Int) ∧ (ky.toList == last.toList) = pk) ∨ (((k : Int) == 0) = false ∧ (0 : Int) < (k : Int) ∧ Op.bytesLess last.toList ky.toList = pk) by
        by_cases hk0 : k = 0
        · left
          rw [if_pos hk0] at hpk
          exact ⟨by rw [beq_iff_eq]; omega, by omega, by rw [hpk, HLA.out hk0]; show (ky.toList == low.toList) = decide (ky.toList = low.toList); rw [Bool.eq_iff_iff]; simp⟩
        · right
          rw [if_neg hk0] at hpk
          exact ⟨by rw [beq_eq_false_iff_ne]; omega, by omega, by rw [hpk]; rfl⟩)
      have HG2 := Lib.hid hg
      clear hg hpk HLA
      go_upto_region 6 with ((go_at_call 44; refine (HX.out _ (Kd.C_below HC.out HBW.out)).mono ?_; rintro e w3 ⟨rfl, hB3⟩))
      have HROWX := Lib.hid (heap_alloc_new w3 (.cells #[.int .i64 kd, .string ky, .string va, .int .i64 ch] 62))
      have HB5 := Lib.hid ((HB.out.next hB3).alloc (HB.out.next hB3).size (.cells #[.int .i64 kd, .string ky, .string va, .int .i64 ch] 62))
      have hl5 : w3.heap.size < (w3.alloc (.cells #[.int .i64 kd, .string ky, .string va, .int .i64 ch] 62)).heap.size := by simp
      generalize w3.alloc (.cells #[.int .i64 kd, .string ky, .string va, .int .i64 ch] 62) = w5 at HROWX HB5 hl5 ⊢
      have x3 := cell_of_row _ _ 3 _ _ _ HROWX.out
      have HBF := Lib.hid (HB2.out.next HB5.out)
      clear hB3 n2 n4 hat
      go_upto_region 7 with ((go_at_call 22; refine (HLC.out _ (Kd.C_below HC.out HBF.out)).mono ?_; rintro e w6 ⟨rfl, hB6⟩))
      have HBG := Lib.hid (HBF.out.next hB6)
      have HB6 := Lib.hid (HB5.out.next hB6)
      have HG6 := Lib.hid ((hB6.block _ hl5).trans HROWX.out)
      have y0 := cell_of_row _ _ 0 _ _ _ HG6.out
      have y1 := cell_of_row _ _ 1 _ _ _ HG6.out
      have y3 := cell_of_row _ _ 3 _ _ _ HG6.out
      obtain ⟨m2, m4⟩ := QN.out _ HB6.out
      clear hB6 x3
      have hcase : ne = 0 ∨ (¬ ne = 0 ∧ ltS ky high = true) ∨ (¬ ne = 0 ∧ ltS ky high = false) := by
        by_cases h0 : ne = 0
        · exact .inl h0
        · cases h1 : ltS ky high
          · exact .inr (.inr ⟨h0, rfl⟩)
          · exact .inr (.inl ⟨h0, rfl⟩)
      rcases hcase with h0 | ⟨h0, h1⟩ | ⟨h0, h1⟩
      · have hg := HG2.out
        rw [decide_eq_true h0] at hg
        simp only [Bool.true_or, Bool.true_and] at hg
        have HG3 := Lib.hid hg
        have e1 := bne_f h0
        clear h0 hg
        have hg := HG3.out
        have hkk := HKK.out
        by_cases her : er = 0
        rotate_left
        · rw [decide_eq_false her] at hg
          simp only [Bool.false_and] at hg
          have e3 := bne_t her
          clear her
          subst hg
          rcases hkk with ⟨b1, b2, b3⟩ | ⟨b1, b2, b3⟩
          all_goals
            go_wp2_with ((go_at_call 55; refine (HIN.out _ (Kd.C_below HBE.out HBG.out)).mono ?_; rintro e w7 ⟨rfl, ⟨nd, rfl⟩⟩))
            go_ret
            exact ⟨by first | rfl | (rw [Bool.false_and]; rfl), by first | exact HBG.out | exact pw_below_drewN HBG.out _⟩
        subst her
        rw [decide_eq_true rfl, Bool.true_and] at hg
        by_cases hkd : kd = 2
        rotate_left
        · rw [decide_eq_false hkd] at hg
          simp only [Bool.false_and] at hg
          have e3 := bne_t hkd
          clear hkd
          subst hg
          rcases hkk with ⟨b1, b2, b3⟩ | ⟨b1, b2, b3⟩
          all_goals
            go_wp2_with ((go_at_call 55; refine (HIN.out _ (Kd.C_below HBE.out HBG.out)).mono ?_; rintro e w7 ⟨rfl, ⟨nd, rfl⟩⟩))
            go_ret
            exact ⟨by first | rfl | (rw [Bool.false_and]; rfl), by first | exact HBG.out | exact pw_below_drewN HBG.out _⟩
        subst hkd
        rw [decide_eq_true rfl, Bool.true_and] at hg
        cases pk with
        | false =>
          simp only [Bool.false_and] at hg
          subst hg
          rcases hkk with ⟨b1, b2, b3⟩ | ⟨b1, b2, b3⟩
          all_goals
            go_wp2_with ((go_at_call 55; refine (HIN.out _ (Kd.C_below HBE.out HBG.out)).mono ?_; rintro e w7 ⟨rfl, ⟨nd, rfl⟩⟩))
            go_ret
            exact ⟨by first | rfl | (rw [Bool.false_and]; rfl), by first | exact HBG.out | exact pw_below_drewN HBG.out _⟩
        | true =>
          rw [Bool.true_and] at hg
          cases hin : below.contains ch with
          | false =>
            rw [hin] at hg HIN
            simp only [Bool.false_and] at hg
            clear hin
            subst hg
            rcases hkk with ⟨b1, b2, b3⟩ | ⟨b1, b2, b3⟩
            all_goals
              go_wp2_with ((go_at_call 55; refine (HIN.out _ (Kd.C_below HBE.out HBG.out)).mono ?_; rintro e w7 ⟨rfl, ⟨nd, rfl⟩⟩))
              go_ret
              exact ⟨by first | rfl | (rw [Bool.false_and]; rfl), by first | exact HBG.out | exact pw_below_drewN HBG.out _⟩
          | true =>
            rw [hin] at hg HIN
            rw [Bool.true_and] at hg
            clear hin
            by_cases heg : eg = 0
            rotate_left
            · rw [decide_eq_false heg] at hg
              simp only [Bool.false_and] at hg
              have e3 := bne_t heg
              clear heg
              subst hg
              rcases hkk with ⟨b1, b2, b3⟩ | ⟨b1, b2, b3⟩
              all_goals
                go_wp2_with ((go_at_call 55; refine (HIN.out _ (Kd.C_below HBE.out HBG.out)).mono ?_; rintro e w7 ⟨rfl, ⟨nd, rfl⟩⟩))
                go_ret
                exact ⟨by first | rfl | (rw [Bool.false_and]; rfl), by first | exact HBG.out | exact pw_below_drewN HBG.out _⟩
            subst heg
            rw [decide_eq_true rfl, Bool.true_and] at hg
            by_cases hfr : fr.toList = ky.toList
            rotate_left
            · rw [decide_eq_false hfr, Bool.false_and] at hg
              have e3 : (fr.toList == ky.toList) = false := beq_eq_false_iff_ne.2 hfr
              clear hfr
              subst hg
              rcases hkk with ⟨b1, b2, b3⟩ | ⟨b1, b2, b3⟩
              all_goals
                go_wp2_with ((go_at_call 55; refine (HIN.out _ (Kd.C_below HBE.out HBG.out)).mono ?_; rintro e w7 ⟨rfl, ⟨nd, rfl⟩⟩))
                go_ret
                exact ⟨by first | rfl | (rw [Bool.false_and]; rfl), by first | exact HBG.out | exact pw_below_drewN HBG.out _⟩
            rw [decide_eq_true hfr, Bool.true_and] at hg
            have e3 : (fr.toList == ky.toList) = true := beq_iff_eq.2 hfr
            have HG4 := Lib.hid (show q = slead ws ne high low below (if k + 1 = 0 then none else some ky) (sl.drop (k + 1)) by rw [if_neg (by omega)]; exact hg)
            clear hfr hg
            rcases hkk with ⟨b1, b2, b3⟩ | ⟨b1, b2, b3⟩
            all_goals
              go_wp2_with ((go_at_call 55; refine (HIN.out _ (Kd.C_below HBE.out HBG.out)).mono ?_; rintro e w7 ⟨rfl, ⟨nd, rfl⟩⟩; have y1d := cell_of_row _ _ 1 _ _ _ (show (w6.drewN nd).heap[w3.heap.size]? = _ from HG6.out)))
              go_roundw
              case rel => exact ⟨k + 1, ky, by omega, by go_num, rfl, Lib.hid (fun h => by omega), HG4, Lib.hid (pw_below_drewN HB6.out _)⟩
              case measure => simp [intOf]; omega
      · have hg := HG2.out
        rw [decide_eq_false h0, h1] at hg
        simp only [Bool.false_or, Bool.true_and] at hg
        have HG3 := Lib.hid hg
        have e1 := bne_t h0
        have e2 := ltS_t h1
        clear h0 h1 hg
        have hg := HG3.out
        have hkk := HKK.out
        by_cases her : er = 0
        rotate_left
        · rw [decide_eq_false her] at hg
          simp only [Bool.false_and] at hg
          have e3 := bne_t her
          clear her
          subst hg
          rcases hkk with ⟨b1, b2, b3⟩ | ⟨b1, b2, b3⟩
          all_goals
            go_wp2_with ((go_at_call 55; refine (HIN.out _ (Kd.C_below HBE.out HBG.out)).mono ?_; rintro e w7 ⟨rfl, ⟨nd, rfl⟩⟩))
            go_ret
            exact ⟨by first | rfl | (rw [Bool.false_and]; rfl), by first | exact HBG.out | exact pw_below_drewN HBG.out _⟩
        subst her
        rw [decide_eq_true rfl, Bool.true_and] at hg
        by_cases hkd : kd = 2
        rotate_left
        · rw [decide_eq_false hkd] at hg
          simp only [Bool.false_and] at hg
          have e3 := bne_t hkd
          clear hkd
          subst hg
          rcases hkk with ⟨b1, b2, b3⟩ | ⟨b1, b2, b3⟩
          all_goals
            go_wp2_with ((go_at_call 55; refine (HIN.out _ (Kd.C_below HBE.out HBG.out)).mono ?_; rintro e w7 ⟨rfl, ⟨nd, rfl⟩⟩))
            go_ret
            exact ⟨by first | rfl | (rw [Bool.false_and]; rfl), by first | exact HBG.out | exact pw_below_drewN HBG.out _⟩
        subst hkd
        rw [decide_eq_true rfl, Bool.true_and] at hg
        cases pk with
        | false =>
          simp only [Bool.false_and] at hg
          subst hg
          rcases hkk with ⟨b1, b2, b3⟩ | ⟨b1, b2, b3⟩
          all_goals
            go_wp2_with ((go_at_call 55; refine (HIN.out _ (Kd.C_below HBE.out HBG.out)).mono ?_; rintro e w7 ⟨rfl, ⟨nd, rfl⟩⟩))
            go_ret
            exact ⟨by first | rfl | (rw [Bool.false_and]; rfl), by first | exact HBG.out | exact pw_below_drewN HBG.out _⟩
        | true =>
          rw [Bool.true_and] at hg
          cases hin : below.contains ch with
          | false =>
            rw [hin] at hg HIN
            simp only [Bool.false_and] at hg
            clear hin
            subst hg
            rcases hkk with ⟨b1, b2, b3⟩ | ⟨b1, b2, b3⟩
            all_goals
              go_wp2_with ((go_at_call 55; refine (HIN.out _ (Kd.C_below HBE.out HBG.out)).mono ?_; rintro e w7 ⟨rfl, ⟨nd, rfl⟩⟩))
              go_ret
              exact ⟨by first | rfl | (rw [Bool.false_and]; rfl), by first | exact HBG.out | exact pw_below_drewN HBG.out _⟩
          | true =>
            rw [hin] at hg HIN
            rw [Bool.true_and] at hg
            clear hin
            by_cases heg : eg = 0
            rotate_left
            · rw [decide_eq_false heg] at hg
              simp only [Bool.false_and] at hg
              have e3 := bne_t heg
              clear heg
              subst hg
              rcases hkk with ⟨b1, b2, b3⟩ | ⟨b1, b2, b3⟩
              all_goals
                go_wp2_with ((go_at_call 55; refine (HIN.out _ (Kd.C_below HBE.out HBG.out)).mono ?_; rintro e w7 ⟨rfl, ⟨nd, rfl⟩⟩))
                go_ret
                exact ⟨by first | rfl | (rw [Bool.false_and]; rfl), by first | exact HBG.out | exact pw_below_drewN HBG.out _⟩
            subst heg
            rw [decide_eq_true rfl, Bool.true_and] at hg
            by_cases hfr : fr.toList = ky.toList
            rotate_left
            · rw [decide_eq_false hfr, Bool.false_and] at hg
              have e3 : (fr.toList == ky.toList) = false := beq_eq_false_iff_ne.2 hfr
              clear hfr
              subst hg
              rcases hkk with ⟨b1, b2, b3⟩ | ⟨b1, b2, b3⟩
              all_goals
                go_wp2_with ((go_at_call 55; refine (HIN.out _ (Kd.C_below HBE.out HBG.out)).mono ?_; rintro e w7 ⟨rfl, ⟨nd, rfl⟩⟩))
                go_ret
                exact ⟨by first | rfl | (rw [Bool.false_and]; rfl), by first | exact HBG.out | exact pw_below_drewN HBG.out _⟩
            rw [decide_eq_true hfr, Bool.true_and] at hg
            have e3 : (fr.toList == ky.toList) = true := beq_iff_eq.2 hfr
            have HG4 := Lib.hid (show q = slead ws ne high low below (if k + 1 = 0 then none else some ky) (sl.drop (k + 1)) by rw [if_neg (by omega)]; exact hg)
            clear hfr hg
            rcases hkk with ⟨b1, b2, b3⟩ | ⟨b1, b2, b3⟩
            all_goals
              go_wp2_with ((go_at_call 55; refine (HIN.out _ (Kd.C_below HBE.out HBG.out)).mono ?_; rintro e w7 ⟨rfl, ⟨nd, rfl⟩⟩; have y1d := cell_of_row _ _ 1 _ _ _ (show (w6.drewN nd).heap[w3.heap.size]? = _ from HG6.out)))
              go_roundw
              case rel => exact ⟨k + 1, ky, by omega, by go_num, rfl, Lib.hid (fun h => by omega), HG4, Lib.hid (pw_below_drewN HB6.out _)⟩
              case measure => simp [intOf]; omega
      · have hg := HG2.out
        rw [decide_eq_false h0, h1] at hg
        simp only [Bool.or_self, Bool.false_and] at hg
        have e1 := bne_t h0
        have e2 := ltS_f h1
        subst hg
        clear h0 h1
        by_cases her : er = 0
        · have e4 := bne_f her
          clear her
          by_cases hkd : kd = 2
          · have e5 := bne_f hkd
            clear hkd
            go_wp2_with fail
            go_ret
            exact ⟨by first | rfl | (rw [Bool.false_and]; rfl), HBG.out⟩
          · have e5 := bne_t hkd
            clear hkd
            go_wp2_with fail
            go_ret
            exact ⟨by first | rfl | (rw [Bool.false_and]; rfl), HBG.out⟩
        · have e4 := bne_t her
          clear her
          go_wp2_with fail
          go_ret
          exact ⟨by first | rfl | (rw [Bool.false_and]; rfl), HBG.out⟩
    · obtain rfl : k = sl.length := by omega
      have hg := HG.out
      rw [List.drop_eq_nil_of_le (Nat.le_refl _), slead_nil] at hg
      subst hg
      by_cases h0 : sl.length = 0
      · have hd : (true && decide (sl.length ≠ 0)) = false := by rw [decide_eq_false (fun h => h h0)]; rfl
        have HDD := Lib.hid hd
        clear hd
        go_wp2
        go_ret
        exact ⟨congrArg (fun z => Ending.returned (Value.bool z)) (show false = (true && decide (sl.length ≠ 0)) by rw [HDD.out]), HBW.out⟩
      · have hd : (true && decide (sl.length ≠ 0)) = true := by rw [Bool.true_and]; exact decide_eq_true h0
        have HDD := Lib.hid hd
        clear hd
        go_wp2
        go_ret
        exact ⟨congrArg (fun z => Ending.returned (Value.bool z)) (show decide (0 < sl.length) = (true && decide (sl.length ≠ 0)) by rw [HDD.out]; exact decide_eq_true (by omega)), HBW.out⟩
/-- What is told of the level below some nodes. -/
def belAns (ws : List Int) (a : Int) (l : List Int) : List Int × Bool :=
  if (nodeRead ws (l.getD 0 0)).1.slots.length = 0 then ([], false)
  else if a = 1 then ((leavesAns ws).1, decide ((recRead ws ((nodeRead ws (l.getD 0 0)).1.slots.getD 0 0)).2 = 0) && decide ((recRead ws ((nodeRead ws (l.getD 0 0)).1.slots.getD 0 0)).1.child = 1))
  else ((levAnsP ws (recRead ws ((nodeRead ws (l.getD 0 0)).1.slots.getD 0 0)).1.child (a - 1)).1, (levAnsP ws (recRead ws ((nodeRead ws (l.getD 0 0)).1.slots.getD 0 0)).1.child (a - 1)).2 && decide ((recRead ws ((nodeRead ws (l.getD 0 0)).1.slots.getD 0 0)).2 = 0))
def BelPost (w : World) (r : List Int × Bool) (e : Ending) (w' : World) : Prop := ∃ A c, e = .returned (.tuple #[.slice A r.1.length c, .bool r.2]) ∧ r.1.length ≤ c ∧ Kd.C (Kd.int .i64) w' A r.1.length r.1 ∧ Below w.heap.size w w'
theorem levAnsP_len (ws : List Int) (b lv : Int) : (levAnsP ws b lv).1.length ≤ ws.length / 16 + 1 := by
  unfold levAnsP
  split
  · exact Nat.zero_le _
  · cases h : levRead ws b lv with
    | none => exact Nat.zero_le _
    | some l => exact levRead_len h
theorem ibelow_any (A : Option Addr) (c : Nat) (ws : List Int) (L : Option Addr) (cl : Nat) (l : List Int) (a : Int) (w : World) (h : Kd.C (Kd.int .i64) w A ws.length ws) (hn : ws.length ≤ 60000) (hc : ws.length ≤ c) (hL : RI w L l.length l) (hl : l ≠ []) (ha0 : 0 ≤ a) (ha1 : a ≤ 9) :
    Calls Try.prog 60 #[.slice A ws.length c, .slice L l.length cl, .int .i64 a] w (BelPost w (belAns ws a l)) := by
  have HC := Lib.hid h
  have HND := Lib.hid (fun x W hW => nodeRead_any A c ws x W hW hc (by omega))
  have HRD := Lib.hid (fun x W hW => recRead_any A c ws x W hW hc (by omega))
  have HLV := Lib.hid (fun W hW => leaves_any A c ws W hW hc (by omega))
  have HCH := Lib.hid (fun x y W hW => ilevel_any A c ws x y W hW hn hc)
  clear h
  unfold NodePost at HND
  unfold RecPost at HRD
  unfold OwnTwoB at HCH
  unfold LeavesPost at HLV
  obtain ⟨z, hz⟩ : ∃ z, z = belAns ws a l := ⟨_, rfl⟩
  rw [← hz]
  unfold belAns at hz
  obtain ⟨ad, b, rfl, hb, hx, hat⟩ := hL.at_ (k := 0) (by cases l with | nil => exact absurd rfl hl | cons x t => simp)
  rw [Addr.add_zero'] at hat
  have hb0 : l.getD 0 0 = b := by rw [List.getD_eq_getElem?_getD, hx]; rfl
  rw [hb0] at hz
  have i0 : (0 : Int) < (l.length : Int) := by cases l with | nil => exact absurd rfl hl | cons x t => simp
  have HN3 := Lib.hid (HND.out b)
  have hs13 := nodeRead_slots_ ws b
  clear hb0 hx hb hl hL
  generalize nodeRead ws b = nd at hz HN3 hs13
  obtain ⟨⟨lv3, tu3, ne3, lo3, sl⟩, en3⟩ := nd
  simp only at hz hs13 HN3
  go_enter Try.func60, Try.ntmps60
  go_upto_region 2 with ((go_at_call 21; refine (HN3.out _ HC.out).mono ?_; rintro e w6 ⟨v6, rfl, hR6, hB6⟩; obtain ⟨A3, c3, rfl, _, hC6⟩ := Kd.R_reads hR6))
  have HROW := Lib.hid (heap_alloc_new w6 (.cells #[.int .i64 lv3, .int .i64 tu3, .int .i64 ne3, .int .i64 lo3, .slice A3 sl.length c3] 24))
  have HB7 := Lib.hid (hB6.alloc hB6.size (.cells #[.int .i64 lv3, .int .i64 tu3, .int .i64 ne3, .int .i64 lo3, .slice A3 sl.length c3] 24))
  have HSL := Lib.hid (RI_of_C (Kd.C_alloc hC6 (.cells #[.int .i64 lv3, .int .i64 tu3, .int .i64 ne3, .int .i64 lo3, .slice A3 sl.length c3] 24)))
  generalize w6.alloc (.cells #[.int .i64 lv3, .int .i64 tu3, .int .i64 ne3, .int .i64 lo3, .slice A3 sl.length c3] 24) = w7 at HROW HB7 HSL ⊢
  have m4 := cell_of_row _ _ 4 _ _ _ HROW.out
  clear hR6 hC6 hB6 hat
  by_cases hsl : sl.length = 0
  · rw [if_pos hsl] at hz
    have e1 : ((sl.length : Int) == 0) = true := by rw [beq_iff_eq]; omega
    subst hz
    clear hsl
    go_wp2_with fail
    go_ret2
    exact ⟨none, 0, rfl, Nat.le_refl _, Kd.C_nil _ _, HB7.out⟩
  rw [if_neg hsl] at hz
  have e1 : ((sl.length : Int) == 0) = false := by rw [beq_eq_false_iff_ne]; omega
  obtain ⟨ad3, s0, rfl, hb3, hx3, hat3⟩ := HSL.out.at_ (k := 0) (by omega)
  rw [Addr.add_zero'] at hat3
  have hs0 : sl.getD 0 0 = s0 := by rw [List.getD_eq_getElem?_getD, hx3]; rfl
  rw [hs0] at hz
  have j0 : (0 : Int) < (sl.length : Int) := by omega
  have HX := Lib.hid (HRD.out s0)
  clear hs0 hx3 hb3 hsl
  generalize recRead ws s0 = rc at hz HX
  obtain ⟨⟨kd, ky, va, ch⟩, ex⟩ := rc
  simp only at hz HX
  go_upto_region 4 with ((go_at_call 44; refine (HX.out _ (Kd.C_below HC.out HB7.out)).mono ?_; rintro e w8 ⟨rfl, hB8⟩))
  have HROWX := Lib.hid (heap_alloc_new w8 (.cells #[.int .i64 kd, .string ky, .string va, .int .i64 ch] 62))
  have HBX := Lib.hid ((HB7.out.next hB8).alloc (HB7.out.next hB8).size (.cells #[.int .i64 kd, .string ky, .string va, .int .i64 ch] 62))
  have hl8 : w8.heap.size < (w8.alloc (.cells #[.int .i64 kd, .string ky, .string va, .int .i64 ch] 62)).heap.size := by simp
  generalize w8.alloc (.cells #[.int .i64 kd, .string ky, .string va, .int .i64 ch] 62) = wa at HROWX HBX hl8 ⊢
  have x3 := cell_of_row _ _ 3 _ _ _ HROWX.out
  clear hB8 m4 hat3 HROW
  have hxx : (decide (ex = 0) = true ∧ (ex == 0) = true) ∨ (decide (ex = 0) = false ∧ (ex == 0) = false) := by
    by_cases hex : ex = 0
    · exact .inl ⟨decide_eq_true hex, beq_t hex⟩
    · exact .inr ⟨decide_eq_false hex, beq_f hex⟩
  by_cases hm0 : a = 1
  · have ha2 := beq_t hm0
    rw [if_pos hm0] at hz
    have HLV1 := Lib.hid HLV.out
    generalize leavesAns ws = la at hz HLV1
    obtain ⟨NX, eL⟩ := la
    simp only at hz HLV1
    clear hm0
    have hcc : (decide (ch = 1) = true ∧ (ch == 1) = true) ∨ (decide (ch = 1) = false ∧ (ch == 1) = false) := by
      by_cases hch : ch = 1
      · exact .inl ⟨decide_eq_true hch, beq_t hch⟩
      · exact .inr ⟨decide_eq_false hch, beq_f hch⟩
    go_upto_region 6 with ((go_at_call 24; refine (HLV1.out _ (Kd.C_below HC.out HBX.out)).mono ?_; rintro e wc ⟨vc, rfl, hRc, hBc⟩; obtain ⟨Ac, cc, rfl, hcc2, hCc⟩ := Kd.R_reads hRc))
    have y3 := cell_of_row _ _ 3 _ _ _ ((hBc.block _ hl8).trans HROWX.out)
    have HCF := Lib.hid (HBX.out.next hBc)
    have HC2 := Lib.hid hCc
    clear x3 hBc hRc hCc
    rcases hxx with ⟨t1, t2⟩ | ⟨t1, t2⟩
    · rcases hcc with ⟨u1, u2⟩ | ⟨u1, u2⟩
      all_goals
        rw [t1, u1] at hz
        subst hz
        clear t1 u1
        go_wp2_with fail
        go_ret2
        exact ⟨Ac, cc, rfl, hcc2, HC2.out, HCF.out⟩
    · rw [t1, Bool.false_and] at hz
      subst hz
      clear t1 hcc
      go_wp2_with fail
      go_ret2
      exact ⟨Ac, cc, rfl, hcc2, HC2.out, HCF.out⟩
  · have ha2 := beq_f hm0
    rw [if_neg hm0] at hz
    have hw1 : IntKind.i64.wrap (a - 1) = a - 1 := by rw [IntKind.wrap_i64]; omega
    have HCR := Lib.hid (HCH.out ch (a - 1))
    have hlb := levAnsP_len ws ch (a - 1)
    generalize levAnsP ws ch (a - 1) = lr at hz HCR hlb
    obtain ⟨NX, okb⟩ := lr
    simp only at hz HCR hlb
    clear hm0
    go_upto_region 8 with ((go_at_call 59; refine (HCR.out _ (Kd.C_below HC.out HBX.out)).mono ?_; rintro e wb ⟨vb, rfl, hob, hBb⟩; obtain ⟨Ab, cb, rfl, hcb, hrib⟩ := own_cap hob))
    have HCF := Lib.hid (HBX.out.next hBb)
    have HC2 := Lib.hid (C_of_own hob (by omega))
    clear x3 hBb hob hrib
    cases okb with
    | false =>
      rw [Bool.false_and] at hz
      subst hz
      go_wp2_with fail
      go_ret2
      exact ⟨Ab, cb, rfl, hcb, HC2.out, HCF.out⟩
    | true =>
      rw [Bool.true_and] at hz
      rcases hxx with ⟨t1, t2⟩ | ⟨t1, t2⟩
      all_goals
        rw [t1] at hz
        subst hz
        clear t1
        go_wp2_with fail
        go_ret2
        exact ⟨Ab, cb, rfl, hcb, HC2.out, HCF.out⟩
theorem belAns_len (ws : List Int) (a : Int) (l : List Int) : (belAns ws a l).1.length ≤ ws.length / 16 + 1 := by
  unfold belAns
  split
  · exact Nat.zero_le _
  · split
    · exact leaves_ln_ ws
    · exact levAnsP_len _ _ _
theorem bel_true {ws l : List Int} {a : Nat} (h : (belAns ws (a : Int) l).2 = true) : nextLev ws a l = some (belAns ws (a : Int) l).1 := by
  unfold belAns at h ⊢
  unfold nextLev
  split at h
  · cases h
  · rename_i h0
    rw [if_neg h0, if_neg h0]
    by_cases ha : (a : Int) = 1
    · rw [if_pos ha] at h ⊢
      simp only [Bool.and_eq_true, decide_eq_true_eq] at h
      rw [if_pos h.1, if_pos (by omega), if_pos h.2]
    · rw [if_neg ha] at h ⊢
      simp only [Bool.and_eq_true, decide_eq_true_eq] at h
      rw [if_pos h.2, if_neg (by omega)]
      have h1 := h.1
      unfold levAnsP at h1 ⊢
      split at h1
      · cases h1
      · rename_i h2
        rw [if_neg h2]
        generalize levRead ws _ ((a : Int) - 1) = r at h1
        cases r with
        | none => cases h1
        | some l => rfl
theorem bel_false {ws l : List Int} {m : Nat} (hl : l ≠ []) (h : (belAns ws ((m + 1 : Nat) : Int) l).2 = false) : sndGo ws (m + 1) l = false := by
  have none_ : nextLev ws (m + 1) l = none → sndGo ws (m + 1) l = false := by
    intro e
    show (match nextLev ws (m + 1) l with | none => false | some nx => levOk ws nx true ⟨#[]⟩ l && sndGo ws m nx) = false
    rw [e]
  unfold belAns at h
  split at h
  · rename_i h0
    exact none_ (by unfold nextLev; rw [if_pos h0])
  · rename_i h0
    by_cases hr : (recRead ws ((nodeRead ws (l.getD 0 0)).1.slots.getD 0 0)).2 = 0
    · by_cases ha : ((m + 1 : Nat) : Int) = 1
      · rw [if_pos ha] at h
        simp only [Bool.and_eq_false_iff, decide_eq_false_iff_not] at h
        rcases h with h | h
        · exact absurd hr h
        · exact none_ (by unfold nextLev; rw [if_neg h0, if_pos hr, if_pos (by omega), if_neg h])
      · rw [if_neg ha] at h
        simp only [Bool.and_eq_false_iff, decide_eq_false_iff_not] at h
        rcases h with h | h
        · unfold levAnsP at h
          split at h
          · rename_i hc
            have e : levRead ws 0 (((m + 1 : Nat) : Int) - 1) = some [] := by
              unfold levRead
              cases ws.length / 16 + 1 with
              | zero => rfl
              | succ n => rfl
            have e2 : nextLev ws (m + 1) l = some [] := by unfold nextLev; rw [if_neg h0, if_pos hr, if_neg (by omega), hc, e]
            show (match nextLev ws (m + 1) l with | none => false | some nx => levOk ws nx true ⟨#[]⟩ l && sndGo ws m nx) = false
            rw [e2]
            show (levOk ws [] true ⟨#[]⟩ l && sndGo ws m []) = false
            cases ho : levOk ws [] true ⟨#[]⟩ l with
            | false => rfl
            | true => exact absurd rfl (levOk_ne ho hl)
          · refine none_ ?_
            unfold nextLev
            rw [if_neg h0, if_pos hr, if_neg (by omega)]
            generalize levRead ws _ (((m + 1 : Nat) : Int) - 1) = r at h ⊢
            cases r with
            | none => rfl
            | some l => cases h
        · exact absurd hr h
    · exact none_ (by unfold nextLev; rw [if_neg h0, if_neg hr])
theorem isound_any (A : Option Addr) (c : Nat) (ws : List Int) (w : World) (h : Kd.C (Kd.int .i64) w A ws.length ws) (hn : ws.length ≤ 60000) (hc : ws.length ≤ c) :
    Calls Try.prog 29 #[.slice A ws.length c] w fun e w' => e = .returned (.bool (soundRead ws)) ∧ Below w.heap.size w w' := by
  have HC := Lib.hid h
  have HCK := Lib.hid (check_any A c ws w h hc (by omega))
  have HSU := Lib.hid (fun W hW => superRead_any A c ws W hW hc (by omega))
  have HND := Lib.hid (fun x W hW => nodeRead_any A c ws x W hW hc (by omega))
  have HLO := Lib.hid (fun x W hW => arenaLow_any A c ws x W hW hc (by omega))
  have HCH := Lib.hid (fun x y W hW => ilevel_any A c ws x y W hW hn hc)
  have HBL := Lib.hid (fun L cl l a W (hW : Kd.C (Kd.int .i64) W A ws.length ws) hL hl h0 h9 => ibelow_any A c ws L cl l a W hW hn hc hL hl h0 h9)
  have HLE := Lib.hid (fun lv tu ne lo A1 c1 sl low B d below W (hW : Kd.C (Kd.int .i64) W A ws.length ws) hS hs hB hd hm => ileads_any A c ws lv tu ne lo A1 c1 sl low B d below W hW hn hc hS hs hB hd hm)
  clear h
  unfold NodePost at HND
  unfold OwnTwoB at HCH
  obtain ⟨z, hz⟩ : ∃ z, z = soundRead ws := ⟨_, rfl⟩
  rw [← hz]
  unfold soundRead at hz
  have hsup := @check_super ws
  have hroot := @super_root ws
  generalize checkRead ws = ck at HCK hz hsup
  by_cases hck : ck = 0
  rotate_left
  · rw [if_neg hck] at hz
    have e1 := bne_t hck
    subst hz
    clear hck hsup hroot
    go_enter Try.func29, Try.ntmps29
    go_wp2_with ((go_at_call 23; refine HCK.out.mono ?_; rintro e w1 ⟨rfl, hB1⟩))
    go_ret
    exact ⟨rfl, hB1⟩
  rw [if_pos hck] at hz
  subst hck
  have hr1 := hroot (hsup rfl)
  clear hsup hroot
  generalize superRead ws = sr at HSU hz hr1
  obtain ⟨s1, root, s3⟩ := sr
  simp only at hz hr1 HSU
  have HN := Lib.hid (HND.out root)
  have hparts := nodeRead_parts_ ws root
  generalize nodeRead ws root = nd at HN hz hparts
  obtain ⟨⟨lv, tu, ne, lo, sl⟩, er⟩ := nd
  simp only at hz HN hparts
  by_cases her : er = 0
  rotate_left
  · rw [if_neg her] at hz
    have e1 := bne_t her
    clear her hr1 hparts
    by_cases h1 : root = 1
    · rw [decide_eq_true h1] at hz
      have HR1 := Lib.hid h1
      have e2 := beq_t h1
      subst hz
      clear h1
      go_enter Try.func29, Try.ntmps29
      go_wp2_with (first
        | (go_at_call 23; refine HCK.out.mono ?_; rintro e w1 ⟨rfl, hB1⟩)
        | (go_at_call 31; refine (HSU.out _ (Kd.C_below HC.out hB1)).mono ?_; rintro e w2 ⟨rfl, hB2⟩)
        | (go_at_call 21; refine (HN.out _ (Kd.C_below HC.out (hB1.next hB2))).mono ?_; rintro e w3 ⟨v3, rfl, hR3, hB3⟩; obtain ⟨A1, c1, rfl⟩ := Kd.R_slice hR3))
      go_ret
      exact ⟨rfl, ((hB1.next hB2).next hB3).alloc ((hB1.next hB2).next hB3).size _⟩
    · rw [decide_eq_false h1] at hz
      have e2 := beq_f h1
      subst hz
      clear h1
      go_enter Try.func29, Try.ntmps29
      go_wp2_with (first
        | (go_at_call 23; refine HCK.out.mono ?_; rintro e w1 ⟨rfl, hB1⟩)
        | (go_at_call 31; refine (HSU.out _ (Kd.C_below HC.out hB1)).mono ?_; rintro e w2 ⟨rfl, hB2⟩)
        | (go_at_call 21; refine (HN.out _ (Kd.C_below HC.out (hB1.next hB2))).mono ?_; rintro e w3 ⟨v3, rfl, hR3, hB3⟩; obtain ⟨A1, c1, rfl⟩ := Kd.R_slice hR3))
      go_ret
      exact ⟨rfl, ((hB1.next hB2).next hB3).alloc ((hB1.next hB2).next hB3).size _⟩
  subst her
  rw [if_pos rfl] at hz
  by_cases hlv : lv = 0
  · subst hlv
    rw [if_pos rfl] at hz
    clear hr1 hparts
    by_cases h1 : root = 1
    · rw [decide_eq_true h1] at hz
      have e2 := beq_t h1
      subst hz
      clear h1
      go_enter Try.func29, Try.ntmps29
      go_wp2_with (first
        | (go_at_call 23; refine HCK.out.mono ?_; rintro e w1 ⟨rfl, hB1⟩)
        | (go_at_call 31; refine (HSU.out _ (Kd.C_below HC.out hB1)).mono ?_; rintro e w2 ⟨rfl, hB2⟩)
        | (go_at_call 21; refine (HN.out _ (Kd.C_below HC.out (hB1.next hB2))).mono ?_; rintro e w3 ⟨v3, rfl, hR3, hB3⟩; obtain ⟨A1, c1, rfl⟩ := Kd.R_slice hR3))
      go_ret
      exact ⟨rfl, ((hB1.next hB2).next hB3).alloc ((hB1.next hB2).next hB3).size _⟩
    · rw [decide_eq_false h1] at hz
      have e2 := beq_f h1
      subst hz
      clear h1
      go_enter Try.func29, Try.ntmps29
      go_wp2_with (first
        | (go_at_call 23; refine HCK.out.mono ?_; rintro e w1 ⟨rfl, hB1⟩)
        | (go_at_call 31; refine (HSU.out _ (Kd.C_below HC.out hB1)).mono ?_; rintro e w2 ⟨rfl, hB2⟩)
        | (go_at_call 21; refine (HN.out _ (Kd.C_below HC.out (hB1.next hB2))).mono ?_; rintro e w3 ⟨v3, rfl, hR3, hB3⟩; obtain ⟨A1, c1, rfl⟩ := Kd.R_slice hR3))
      go_ret
      exact ⟨rfl, ((hB1.next hB2).next hB3).alloc ((hB1.next hB2).next hB3).size _⟩
  rw [if_neg hlv] at hz
  obtain ⟨p0, p9⟩ := hparts rfl
  have e1 := beq_f hlv
  have HCR := Lib.hid (HCH.out root lv)
  have hlp : levAnsP ws root lv = levAns (levRead ws root lv) := by unfold levAnsP; rw [if_neg (by omega)]
  rw [hlp] at HCR
  clear hlp
  have hl0 : ∀ l, levRead ws root lv = some l → l ≠ [] := fun l h => levGo_ne ws lv _ _ _ l h (.inr (by omega))
  have hl1 : ∀ l, levRead ws root lv = some l → l.length ≤ 60000 := fun l h => by have := levRead_len h; omega
  generalize levRead ws root lv = lr at HCR hz hl0 hl1
  go_enter Try.func29, Try.ntmps29
  go_upto_region 7 with (first
    | (go_at_call 23; refine HCK.out.mono ?_; rintro e w1 ⟨rfl, hB1⟩)
    | (go_at_call 31; refine (HSU.out _ (Kd.C_below HC.out hB1)).mono ?_; rintro e w2 ⟨rfl, hB2⟩)
    | (go_at_call 21; refine (HN.out _ (Kd.C_below HC.out (hB1.next hB2))).mono ?_; rintro e w3 ⟨v3, rfl, hR3, hB3⟩; obtain ⟨A1, c1, rfl⟩ := Kd.R_slice hR3))
  have HROW := Lib.hid (heap_alloc_new w3 (.cells #[.int .i64 lv, .int .i64 tu, .int .i64 ne, .int .i64 lo, .slice A1 sl.length c1] 24))
  have HB4 := Lib.hid (((hB1.next hB2).next hB3).alloc ((hB1.next hB2).next hB3).size (.cells #[.int .i64 lv, .int .i64 tu, .int .i64 ne, .int .i64 lo, .slice A1 sl.length c1] 24))
  have hl4 : w3.heap.size < (w3.alloc (.cells #[.int .i64 lv, .int .i64 tu, .int .i64 ne, .int .i64 lo, .slice A1 sl.length c1] 24)).heap.size := by simp
  generalize w3.alloc (.cells #[.int .i64 lv, .int .i64 tu, .int .i64 ne, .int .i64 lo, .slice A1 sl.length c1] 24) = w4 at HROW HB4 hl4 ⊢
  have m0 := cell_of_row _ _ 0 _ _ _ HROW.out
  clear hR3 hB1 hB2 hB3 hr1
  go_upto_region 8 with ((go_at_call 59; refine (HCR.out _ (Kd.C_below HC.out HB4.out)).mono ?_; rintro e w5 ⟨v5, rfl, ho5, hB5⟩; obtain ⟨A5, c5, rfl, hc5, hri5⟩ := own_cap ho5))
  have HB5 := Lib.hid (HB4.out.next hB5)
  have m1 := cell_of_row _ _ 0 _ _ _ ((hB5.block _ hl4).trans HROW.out)
  have HR5 := Lib.hid hri5
  clear m0 ho5 hB5 hri5 hc5
  cases lr with
  | none =>
    simp only at hz
    subst hz
    simp only [levAns]
    go_wp2_with fail
    go_loopw [9, 10] (fun o _ wr => o = .bool false ∧ wr = w5) (fun _ _ _ => 0)
    case atStart => exact ⟨rfl, rfl⟩
    case round =>
      obtain ⟨rfl, rfl⟩ := hrel
      go_wp2
      go_ret
      exact ⟨rfl, HB5.out⟩
  | some l =>
    have hlne := hl0 l rfl
    have hlen := hl1 l rfl
    simp only [levAns] at hz HR5 ⊢
    obtain ⟨a, ha⟩ : ∃ a : Nat, lv = (a : Int) := Int.eq_ofNat_of_zero_le p0
    subst ha
    rw [Int.toNat_natCast] at hz
    have HZ := Lib.hid hz
    have HNE := Lib.hid (show l ≠ [] ∧ l.length ≤ 60000 from ⟨hlne, hlen⟩)
    clear hl0 hl1 hz hlne hlen HROW hl4 e1
    go_wp2_with fail
    go_loopw [8, 9, 10] (fun v8 okv atv wr => ∃ (a : Nat) (l : List Int) (L : Option Addr) (cl : Nat) (ok : Bool), a ≤ 9 ∧ atv = .int .i64 a ∧ okv = .bool ok ∧ v8 = .slice L l.length cl ∧ Hid (RI wr L l.length l) ∧ Hid (ok = true → z = sndGo ws a l ∧ l ≠ []) ∧ Hid (ok = false → z = false) ∧ Hid (l.length ≤ 60000) ∧ Hid (Below w.heap.size w wr)) (fun _ _ a _ => (intOf a).toNat)
    case atStart => exact ⟨a, l, A5, c5, true, by omega, rfl, rfl, rfl, HR5, Lib.hid (fun _ => ⟨HZ.out, HNE.out.1⟩), Lib.hid (fun h => by cases h), Lib.hid HNE.out.2, HB5⟩
    case round =>
      obtain ⟨a, l, L, cl, ok, ha9, rfl, rfl, rfl, HR, HZT, HZF, HLN, HB⟩ := hrel
      clear HZ HNE
      cases ok with
      | false =>
        have hz := HZF.out rfl
        clear HZT HZF
        subst hz
        go_wp2
        go_ret
        exact ⟨rfl, HB.out⟩
      | true =>
      obtain ⟨hz, hne⟩ := HZT.out rfl
      clear HZT HZF
      rcases Nat.eq_zero_or_pos a with ha0 | ha0
      · subst ha0
        have hz2 : z = true := hz
        clear hz
        subst hz2
        go_wp2
        go_ret
        exact ⟨rfl, HB.out⟩
      obtain ⟨m, hm⟩ : ∃ m, a = m + 1 := ⟨a - 1, by omega⟩
      have hgt : (0 : Int) < (a : Int) := by omega
      have hw1 : IntKind.i64.wrap ((a : Int) - 1) = (m : Int) := by rw [IntKind.wrap_i64]; omega
      have hBT := @bel_true ws l a
      have hBF : (belAns ws (a : Int) l).2 = false → z = false := by intro h; rw [hz, hm]; exact bel_false hne (by rw [← hm]; exact h)
      have hBN := belAns_len ws (a : Int) l
      have HBE := Lib.hid (fun W hW hR => HBL.out L cl l (a : Int) W hW hR hne (by omega) (by omega))
      have hl0 : l.length ≠ 0 := fun e => hne (List.eq_nil_of_length_eq_zero e)
      have HNE := Lib.hid hne
      generalize belAns ws (a : Int) l = bl at hBT hBF hBN HBE
      obtain ⟨NX, okb⟩ := bl
      simp only at hBT hBF hBN HBE
      have HBT := Lib.hid (fun (h : okb = true) => (show z = (levOk ws NX true ⟨#[]⟩ l && sndGo ws m NX) by rw [hz, hm]; show (match nextLev ws (m + 1) l with | none => false | some nx => levOk ws nx true ⟨#[]⟩ l && sndGo ws m nx) = _; rw [← hm, hBT h]))
      have HBFF := Lib.hid hBF
      have hnx : NX.length ≤ 60000 := by omega
      have HM := Lib.hid hm
      clear hBT hBF hz hBN hne hm
      go_upto_region 13 with ((go_at_call 60; refine (HBE.out _ (Kd.C_below HC.out HB.out) HR.out).mono ?_; rintro e w6 ⟨A6, c6, rfl, hc6, hC6, hB6⟩))
      have HB6 := Lib.hid (HB.out.next hB6)
      have HR6 := Lib.hid (HR.out.below hB6)
      have HC6 := Lib.hid hC6
      try simp only at hc6
      try simp only at HC6
      clear hB6 hC6
      cases okb with
      | false =>
        have hz := HBFF.out rfl
        subst hz
        go_wp2_with fail
        go_ret
        exact ⟨rfl, HB6.out⟩
      | true =>
      have HZ := Lib.hid (HBT.out rfl)
      clear HBT HBFF
      go_wp2_with fail
      go_loopw [9, 12, 71] (fun okv la iv wr2 => ∃ (k : Nat) (last : ByteArray) (ok2 : Bool), k ≤ l.length ∧ iv = .int .i64 k ∧ la = .string last ∧ okv = .bool ok2 ∧ Hid (levOk ws NX true ⟨#[]⟩ l = (ok2 && levOk ws NX (k == 0) last (l.drop k))) ∧ Hid (Below w6.heap.size w6 wr2)) (fun _ _ i _ => l.length - (intOf i).toNat)
      case atStart => exact ⟨0, ⟨#[]⟩, true, by omega, rfl, rfl, rfl, Lib.hid (by rw [Bool.true_and]; rfl), Lib.hid (Below.refl _ _)⟩
      case round =>
        obtain ⟨k, last, ok2, hk, rfl, rfl, rfl, HG, HBI⟩ := hrel
        have hln6 := HLN.out
        by_cases hlt : k < l.length
        · obtain ⟨ad, b, rfl, hb, hx, hat⟩ := (HR6.out.below HBI.out).at_ hlt
          have hdr : l.drop k = b :: l.drop (k + 1) := dropK hx
          have hg := HG.out
          rw [hdr, levOk_cons] at hg
          unfold nodeLead at hg
          have HN3 := Lib.hid (HND.out b)
          have HLW := Lib.hid (HLO.out b)
          have hs13 := nodeRead_slots_ ws b
          clear hx hdr
          generalize lowRead ws b = lr at hg HLW
          obtain ⟨lw, el⟩ := lr
          generalize nodeRead ws b = nd at hg HN3 hs13
          obtain ⟨⟨lv3, tu3, ne3, lo3, sl3⟩, en3⟩ := nd
          simp only at hg HN3 hs13 HLW
          obtain ⟨lr, hlr⟩ : ∃ lr, lr = (slead ws ne3 (lowRead ws ne3).1 lw NX none sl3 && decide (sl3.length ≠ 0)) := ⟨_, rfl⟩
          have HLR := Lib.hid hlr.symm
          obtain ⟨pk, hpk⟩ : ∃ pk : Bool, pk = (if (k == 0) = true then decide (lo3 = 0) else ltS last lw) := ⟨_, rfl⟩
          have HSTEP := Lib.hid (fun (o2 : Bool) (ho : o2 = (ok2 && decide (el = 0) && pk && lr)) => (show levOk ws NX true ⟨#[]⟩ l = (o2 && levOk ws NX (k + 1 == 0) lw (l.drop (k + 1))) by
            rw [hg, ho, hlr, hpk]
            show _ = (_ && levOk ws NX false lw (l.drop (k + 1)))
            generalize slead ws ne3 (lowRead ws ne3).1 lw NX none sl3 = u1
            generalize decide (sl3.length ≠ 0) = u2
            generalize decide (el = 0) = u3
            generalize (if (k == 0) = true then decide (lo3 = 0) else ltS last lw) = u4
            generalize levOk ws NX false lw (l.drop (k + 1)) = u5
            cases ok2 <;> cases u1 <;> cases u2 <;> cases u3 <;> cases u4 <;> rfl))
          have HKK := Lib.hid (show (((k : Int) == 0) = true ∧ ¬ (0 : Int) < (k : Int) ∧ (lo3 == 0) = pk) ∨ (((k : Int) == 0) = false ∧ (0 : Int) < (k : Int) ∧ Op.bytesLess last.toList lw.toList = pk) by
            by_cases hk0 : k = 0
            · left
              rw [if_pos (by simpa using hk0)] at hpk
              exact ⟨by rw [beq_iff_eq]; omega, by omega, by rw [hpk]; by_cases h : lo3 = 0 <;> simp [h]⟩
            · right
              rw [if_neg (by simpa using hk0)] at hpk
              exact ⟨by rw [beq_eq_false_iff_ne]; omega, by omega, by rw [hpk]; rfl⟩)
          have HBW := Lib.hid (HB6.out.next HBI.out)
          clear hg hlr hpk HG hb
          go_upto_region 19 with ((go_at_call 21; refine (HN3.out _ (Kd.C_below HC.out HBW.out)).mono ?_; rintro e w7 ⟨v7, rfl, hR7, hB7⟩; obtain ⟨A3, c3, rfl, _, hC7⟩ := Kd.R_reads hR7))
          have HROW := Lib.hid (heap_alloc_new w7 (.cells #[.int .i64 lv3, .int .i64 tu3, .int .i64 ne3, .int .i64 lo3, .slice A3 sl3.length c3] 24))
          have HB8 := Lib.hid ((HBI.out.next hB7).alloc (HBI.out.next hB7).size (.cells #[.int .i64 lv3, .int .i64 tu3, .int .i64 ne3, .int .i64 lo3, .slice A3 sl3.length c3] 24))
          have HSL := Lib.hid (RI_of_C (Kd.C_alloc hC7 (.cells #[.int .i64 lv3, .int .i64 tu3, .int .i64 ne3, .int .i64 lo3, .slice A3 sl3.length c3] 24)))
          have hl8 : w7.heap.size < (w7.alloc (.cells #[.int .i64 lv3, .int .i64 tu3, .int .i64 ne3, .int .i64 lo3, .slice A3 sl3.length c3] 24)).heap.size := by simp
          generalize w7.alloc (.cells #[.int .i64 lv3, .int .i64 tu3, .int .i64 ne3, .int .i64 lo3, .slice A3 sl3.length c3] 24) = w8 at HROW HB8 HSL hl8 ⊢
          clear hR7 hC7 hB7 hat
          go_upto_region 20 with ((go_at_call 22; refine (HLW.out _ (Kd.C_below HC.out (HB6.out.next HB8.out))).mono ?_; rintro e w9 ⟨rfl, hB9⟩))
          have HB9 := Lib.hid (HB8.out.next hB9)
          have HBG := Lib.hid (HB6.out.next HB9.out)
          have HSL3 := Lib.hid (HSL.out.below hB9)
          have HROW9 := Lib.hid ((hB9.block _ hl8).trans HROW.out)
          have y0 := cell_of_row _ _ 0 _ _ _ HROW9.out
          have y1 := cell_of_row _ _ 1 _ _ _ HROW9.out
          have y2 := cell_of_row _ _ 2 _ _ _ HROW9.out
          have y3 := cell_of_row _ _ 3 _ _ _ HROW9.out
          have y4 := cell_of_row _ _ 4 _ _ _ HROW9.out
          clear hB9 HROW HSL
          cases ok2 with
          | false =>
            go_wp2_with fail
            go_roundw
            case rel => exact ⟨k + 1, lw, false, by omega, by go_num, rfl, rfl, Lib.hid (HSTEP.out false (by first | rfl | simp [*])), HB9⟩
            case measure => simp [intOf]; omega
          | true =>
          by_cases hel : el = 0
          rotate_left
          · have e3 := beq_f hel
            have e4 := decide_eq_false hel
            go_wp2_with fail
            go_roundw
            case rel => exact ⟨k + 1, lw, false, by omega, by go_num, rfl, rfl, Lib.hid (HSTEP.out false (by first | rfl | simp [*])), HB9⟩
            case measure => simp [intOf]; omega
          have e3 := beq_t hel
          have e4 := decide_eq_true hel
          clear hel
          have hkk := HKK.out
          cases pk with
          | false =>
            rcases hkk with ⟨b1, b2, b3⟩ | ⟨b1, b2, b3⟩
            all_goals
              go_wp2_with fail
              go_roundw
              case rel => exact ⟨k + 1, lw, false, by omega, by go_num, rfl, rfl, Lib.hid (HSTEP.out false (by first | rfl | simp [*])), HB9⟩
              case measure => simp [intOf]; omega
          | true =>
            rcases hkk with ⟨b1, b2, b3⟩ | ⟨b1, b2, b3⟩
            all_goals
              go_wp2_with ((go_at_call 61; refine (HLE.out lv3 tu3 ne3 lo3 A3 c3 sl3 lw A6 c6 NX _ (Kd.C_below HC.out HBG.out) HSL3.out (by omega) (Kd.C_below HC6.out HB9.out) hc6 (by omega)).mono ?_; rw [HLR.out]; rintro e wf ⟨rfl, hBf⟩))
              go_roundw
              case rel => exact ⟨k + 1, lw, lr, by omega, by go_num, rfl, rfl, Lib.hid (HSTEP.out lr (by first | rfl | simp [*])), Lib.hid (HB9.out.next hBf)⟩
              case measure => simp [intOf]; omega
        · obtain rfl : k = l.length := by omega
          have hg := HG.out
          rw [List.drop_eq_nil_of_le (Nat.le_refl _), levOk_nil, Bool.and_true] at hg
          have hz := HZ.out
          rw [hg] at hz
          have HZ1 := Lib.hid (fun (h : ok2 = true) => (show z = sndGo ws m NX ∧ NX ≠ [] from ⟨by rw [hz, h, Bool.true_and], levOk_ne (hg.trans h) HNE.out⟩))
          have HZ2 := Lib.hid (fun (h : ok2 = false) => (show z = false by rw [hz, h, Bool.false_and]))
          clear hg hz
          go_wp2_with fail
          go_roundw
          case rel => exact ⟨m, NX, A6, c6, ok2, (by have := HM.out; omega), rfl, rfl, rfl, Lib.hid (RI_of_C (Kd.C_below HC6.out HBI.out)), HZ1, HZ2, Lib.hid hnx, Lib.hid (HB6.out.next HBI.out)⟩
          case measure => have hm := HM.out; simp [intOf]; omega
end Go.Proofs.Ytliaemoomhfcdaa
